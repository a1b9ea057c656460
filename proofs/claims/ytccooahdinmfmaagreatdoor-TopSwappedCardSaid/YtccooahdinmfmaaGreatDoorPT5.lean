/-
  Texts of this seat, put together: rules, walks, plain laws.
  Conditions: none.
-/
import Derived.Test.YtccooahdinmfmaaGreatDoorPT4
noncomputable section
namespace Go.Proofs.YtccooahdinmfmaaGreatDoor
open Go IntKind
set_option linter.unusedVariables false
set_option linter.unusedSimpArgs false
set_option linter.unusedSectionVars false
set_option maxHeartbeats 4000000
set_option maxRecDepth 10000
theorem iT [AO] {BJ tail CV A1 c1 A2 c2 A3 c3 BN ES r} (h:qN BJ tail CV=some r):
    AX Tryz.prog 101 [.pointer (some ⟨BN,0,none⟩), .int .i64 tail] [.res (Box BN 124 (wR BJ ES A1 c1)), .res (zD xV 155 A1 c1 BJ.records), .res (Box ES 112 (zJ CV A2 c2 A3 c3)), .res (zD AP 5 A2 c2 CV.bytes), .res (zD xA 3 A3 c3 CV.AY)] (fun v F=>∃ A4 c4 A5 c5 A6 c6,v= .int .i64 r.2.2∧F= [.res (Box BN 124 (wR r.1 ES A4 c4)), .res (zD xV 155 A4 c4 r.1.records), .res (Box ES 112 (zJ r.2.1 A5 c5 A6 c6)), .res (zD AP 5 A5 c5 r.2.1.bytes), .res (zD xA 3 A6 c6 r.2.1.AY)]):=by
 refine AX.intro Tryz.func101 O O O fun w R=>?_;refine .seq<|.region<|.box O O fun g1=>.b [0,3] O<|.a 3 O<|.lb 4 1 O<|.b [0,3,5] O<|.seq<|.ab [0,3,5,16] O<|.cb h O (fun h=>?_) (fun h=>?_)
 ·refine .EQ [4] [] 1 O O ?_;cases h;exact .rv O O ⟨A1,c1,A2,c2,A3,c3,O,O⟩ zw
 refine .sk<|.pr [0,3,5] O<|.seq<|.regionF mixed (by kernel_rfl)<|.n 3 O<|.lb 1 1 O<|.n 5 O<|.lb 2 1 O<|.bd h fun q1 hq1 h=>.rem O O O hq1<|.bq [0,3,5,6] O<|.a 4 O<|.lb 0 1 O<|.bd h fun bb1 NW h=>?_;refine .ss 33 (rX NW)<|.bd h fun r1 hr1 h=>.cq 6 [] [3,3,3] 0 (yR hr1) dK O<|.b [0,3,5,6,7] O<|.seq<|.BG (iN [0,4,8,12,16,20,24,28,33,39,43,44,48,52,56,60] .nil) _ mixed (by kernel_rfl) (zl [] 3 O)<|.yn 3 O<|.yl 0 1 O<|.yn 4 O<|.yx 0 4 O<|.BZ<|.bd h fun bb2 NY h=>?_;refine .ss 40 (rX NY) ?_;refine .ss 45 (rX NY)<|.bd h fun r2 hr2 h=>.cq 6 [] [] 0 (yR hr2) dK O<|.xk (zl [] 3 O)<|.BZ<|.bd h fun r3 hr3 h=>.call (qI hr3) Jj O O O (fun _ w=>w) ?_;rintro _ _ ⟨A4,c4,A5,c5,A6,c6,rfl,rfl⟩;refine .nm 7 O<|.xk (zl [] 4 O)<|.yn 5 O<|.BX<|.AB<|.pr [0,3,5,6,7,8,9] O<|.seq<|.bd h fun o1 hj1 h=>.DZ 4 (fun (e1:Option Addr × Nat × Option Addr × Nat)=>[0,3,5,7, .s 9 (.int .i64 o1.1)]) (fun e1=>[.res (zD xA 3 e1.2.2.1 e1.2.2.2 o1.2.AY), .res (zD AP 5 e1.1 e1.2.1 o1.2.bytes), .res (Box ES 112 (zJ o1.2 e1.1 e1.2.1 e1.2.2.1 e1.2.2.2))]) O O ?_ ?_
 ·refine .seq<|.bd hj1 fun o2 hj2 hj1=>.cu 4 [0,3,5,6,7,9, .s 56 (.bool o2)] [0,1,2] O O ?_ ?_
  ·refine .region<|.n 3 O<|.gs 52 hj2 O (fun hj2=>?_) (fun hj2=>?_)
   ·refine .n 1 O<|.BR O O<|.AQ (fun _ w=>(w.sl [3] 0 O).CO)<|.bd hj2 fun r4 hr4 hj2=>.cv [0] (dO hr4) zVG O ?_;cases hj2;exact .be O<|.hU O (zl [] 1 O)
   cases hj2;exact .be O<|.hU O (zl [0,0,0] 1 O)
  refine .cb hj1 O (fun hj1=>?_) (fun hj1=>?_)
  ·refine .region<|.n 3 O<|.lb 0 4 O<|.p O O<|.bd hj1 fun bb3 OT hj1=>?_;refine .ss 60 (rX OT)<|.bd hj1 fun r5 JF hj1=>.ct 6 [] [] 0 (jL JF) zVK O fun A9 c9 MR c10=>?_;cases hj1;exact .be O<|.hE (A9,c9,MR,c10) O (zl [2,1] 0 O)
  cases hj1;exact .sk<|.hE (A4,c4,A5,c5) O (zl [2,1] 0 O)
 rintro ⟨A7,c7,A8,c8⟩;refine .seq<|.bd h fun o3 hj3 h=>.DZ 3 (fun (e3:Option Addr × Nat × Option Addr × Nat)=>[0,3,5,7, .s 9 (.int .i64 o3.1)]) (fun e3=>[.res (zD xA 3 e3.2.2.1 e3.2.2.2 o3.2.AY), .res (zD AP 5 e3.1 e3.2.1 o3.2.bytes), .res (Box ES 112 (zJ o3.2 e3.1 e3.2.1 e3.2.2.1 e3.2.2.2))]) O O ?_ ?_
 ·refine .ab [0,3,5,7,9,64] O<|.cb hj3 O (fun hj3=>?_) (fun hj3=>?_)
  ·refine .bd hj3 fun r6 KZ hj3=>.bd hj3 fun r7 PI hj3=>.bd hj3 fun l1 hl1 hj3=>.bd hj3 fun l2 hl2 hj3=>.bd hj3 fun Vj iq hj3=>.bd hj3 fun r8 SH hj3=>.BG (iN [0,4,8,12,16,20,28,40,44,48,52,56,60,64,68,72,76,80] (.alt (iN [27] (.alt (iN [35] (.alt (iN [39] (iN [87] (iN [91] (iN [95,96] .nil)))) (iN [87] (iN [39] (iN [91] (iN [95,96] .nil)))))) (iN [87] (iN [35] (iN [39] (iN [91] (iN [95,96] .nil))))))) (iN [87] (iN [27] (iN [35] (iN [39] (iN [91] (iN [95,96] .nil)))))))) _ mixed (by kernel_rfl) (zl [] 3 O)<|.EC (Y:=?JE) 0 (fun (e:Option Addr × Nat × Nat × Option Addr × Nat)=>[0,3,5,7,9, .s 68 (.pointer (XD BJ.d ES)), .s 69 (.int .i64 (wrap .i64 ((wrap .i64 (BJ.first+q1))*r1))), .s 74 (.slice e.1 l1.length e.2.1), .s 86 (.slice (some ⟨e.2.2.1,0,none⟩) 2 2)]) (fun e=>[.res (Box e.2.2.1 5 [.int .u8 (wrap .u8 BJ.next), .int .u8 (wrap .u8 (xP .u16 BJ.next 8))]), .res (zD AP 5 e.1 e.2.1 l1), .ro (BP AP e.2.2.2.1 e.2.2.2.2 r7)]) O O (fun DT=>?EW) ?EX
   case EW=>
    refine .EC (Y:=?LX) 0 (fun (e:Option Addr × Nat × Option Addr × Nat × Nat)=>[0,3,5,7,9, .s 68 (.pointer (XD BJ.d ES)), .s 69 (.int .i64 (wrap .i64 ((wrap .i64 (BJ.first+q1))*r1))), .s 71 (.slice e.1 r6.length e.2.1), .s 73 (.slice e.2.2.1 r7.length e.2.2.2.1), .s 86 (.slice (some ⟨e.2.2.2.2,0,none⟩) 2 2)]) (fun e=>[.res (Box e.2.2.2.2 5 [.int .u8 (wrap .u8 BJ.next), .int .u8 (wrap .u8 (xP .u16 BJ.next 8))]), .res (zD AP 5 e.2.2.1 e.2.2.2.1 r7), .res (zD AP 5 e.1 e.2.1 r6)]) O O (fun FK=>?IJ) ?IK
    case IJ=>
     refine .EC (Y:=?UK) 0 (fun (e:Option Addr × Nat × Nat)=>[0,3,5,7,9, .s 68 (.pointer (XD BJ.d ES)), .s 69 (.int .i64 (wrap .i64 ((wrap .i64 (BJ.first+q1))*r1))), .s 71 (.slice e.1 r6.length e.2.1), .s 72 (.int .i64 tail), .s 86 (.slice (some ⟨e.2.2,0,none⟩) 2 2)]) (fun e=>[.res (Box e.2.2 5 [.int .u8 (wrap .u8 BJ.next), .int .u8 (wrap .u8 (xP .u16 BJ.next 8))]), .res (zD AP 5 e.1 e.2.1 r6)]) O O (fun JO=>?LY) ?LZ
     case LY=>
      refine .yn 3 O<|.yl 0 1 O<|.yn 2 O<|.yl 0 0 O<|.yn 3 O<|.yl 7 1 O<|.yn 4 O<|.yl 7 1 O<|.yn 2 O<|.GZ ?_ ?_
      ·refine .BZ<|.cr 7 [] [] 0 (pZ KZ) Jk O fun MQ c13=>.xk (zl [] 4 O)<|.GZ ?_ ?_
       ·refine .BZ<|.cr 8 [] [] 0 (pZ PI) Jk O fun LD c14=>.xk (zl [] 5 O)<|.GZ ?_ ?_
        ·refine .BZ<|.AQ (fun _ w=>w.CO)<|.app (E:=AP) hl1 O O O (.s .z) O O O O O O O O (OB (.head _)) O O fun PK c15=>.xk (zl [] 5 O)<|.BZ<|.bS O fun g2=>.xk (zl [] 6 O) ?_;refine DT _ _ (PK,c15,g2,LD,c14) ?_ ?_
         ·exact ⟨O,O,O,O,O,O,O,O,O,trivial⟩
         exact fun _ w=>w
        refine .BZ<|.bS O fun g2=>.xk (zl [] 6 O) ?_;refine FK _ _ (MQ,c13,LD,c14,g2) ?_ ?_
        ·exact ⟨O,O,O,O,O,O,O,O,O,O,trivial⟩
        exact fun _ w=>w
       refine .BZ<|.bS O fun g2=>.xk (zl [] 5 O) ?_;refine JO _ _ (MQ,c13,g2) ?_ ?_
       ·exact ⟨O,O,O,O,O,O,O,O,O,O,trivial⟩
       exact fun _ w=>w
      refine .BZ<|.bS O fun g2=>.xk (zl [] 4 O)<|.BZ<|.cr 8 [] [] 0 (pZ KZ) Jk O fun MQ c13=>.xk (zl [] 5 O) ?_;refine JO _ _ (MQ,c13,g2) ?_ ?_
      ·exact ⟨O,O,O,O,O,O,O,O,O,O,trivial⟩
      exact fun _ w=>(w.sl [1] 0 O)
     case LZ=>
      rintro ⟨MQ,c13,g2⟩;refine .nm 8 O<|.BZ<|.cr 9 [] [] 0 (pZ PI) Jk O fun LD c14=>.xk (zl [] 6 O) ?_;refine FK _ _ (MQ,c13,LD,c14,g2) ?_ ?_
      ·exact ⟨O,O,O,O,O,O,O,O,O,O,trivial⟩
      exact fun _ w=>(w.sl [1] 0 O)
    case IK=>
     rintro ⟨MQ,c13,LD,c14,g2⟩;refine .nm 9 O<|.BZ<|.AQ (fun _ w=>(w.sl [1] 0 O).CO)<|.app (E:=AP) hl1 O O O (FX 2 O) O O O O O O O O (OB (.head _)) O O fun PK c15=>.xk (zl [] 6 O) ?_;refine DT _ _ (PK,c15,g2,LD,c14) ?_ ?_
     ·exact ⟨O,O,O,O,O,O,O,O,O,trivial⟩
     exact fun _ w=>(w.sl [2] 0 O)
   case EX=>
    rintro ⟨PK,c15,g2,LD,c14⟩;refine .nm 9 O<|.BZ<|.app (E:=AP) hl2 O O O (.s .z) O O O O O O O O (oP (.head _) O O) O O fun SK c16=>.xk (zl [] 6 O)<|.BZ ?_;refine .ss 68 (rX iq)<|.AQ (fun _ w=>w.CO)<|.ct 9 [3] [5,4,3] 0 (wV SH) ig O fun TJ c17 VB c18=>.xk (zl [] 6 O)<|.yn 1 O<|.BX ?_;cases hj3;exact .AB<|.hE (TJ,c17,VB,c18) O (zl [2,1,0] 3 O)
  cases hj3;exact .sk<|.hE (A7,c7,A8,c8) O zw
 rintro ⟨OQ,c11,WE,c12⟩;refine .seq<|.bd h fun o4 EL h=>.DZ 3 (fun (e4:Option Addr × Nat × Option Addr × Nat)=>[0,3,5, .s 9 (.int .i64 o4.1)]) (fun e4=>[.res (zD xA 3 e4.2.2.1 e4.2.2.2 o4.2.AY), .res (zD AP 5 e4.1 e4.2.1 o4.2.bytes), .res (Box ES 112 (zJ o4.2 e4.1 e4.2.1 e4.2.2.1 e4.2.2.2))]) O O ?_ ?_
 ·refine .ab [0,3,5,7,9,90] O<|.cb EL O (fun EL=>?_) (fun EL=>?_)
  ·refine .region<|.n 3 O<|.lb 0 4 O<|.n 2 O<|.bS O fun g3=>.bd EL fun Vk iw EL=>?_;refine .ss 94 (rX iw)<|.AQ (fun _ w=>w.IB (E:=AP) (e:=5) [0] O O)<|.AQ (fun _ w=>w.CO)<|.bd EL fun r9 XH EL=>.ct 7 [3] [3,2,1] 0 (wV XH) ig O fun YQ c21 qo qp=>?_;cases EL;exact .be O<|.hE (YQ,c21,qo,qp) O (zl [2,1,0] 1 O)
  cases EL;exact .sk<|.hE (OQ,c11,WE,c12) O zw
 rintro ⟨SL,c19,VD,c20⟩;refine .seq<|.ab [0,3,5,9,100] O<|.cb h O (fun h=>?_) (fun h=>?_)
 ·refine .seq<|.BG (iN [0,4,8,12,16,20,24,31,32,36,43,44,48,55] .nil) _ mixed (by kernel_rfl) (zl [0,0,0,0] 1 O)<|.yn 4 O<|.yl 0 3 O<|.yn 2 O<|.BZ<|.sb 4 4 O<|.xk (zl [] 1 O)<|.yn 2 O<|.BZ<|.sb 5 0 O<|.xk (zl [] 1 O)<|.yn 2 O<|.BZ<|.sb 6 0 O<|.xk (zl [] 1 O)<|.BX<|.AB<|.pr [0,3,9] O<|.region<|.n 4 O<|.lb 8 0 O<|.p O O<|.bd h fun r10 NT h=>.cq 6 [] [5] 0 (zKh NT) zWX O<|.bd h fun l3 hl3 h=>?_;refine .ss 116 (tT hl3)<|.n 2 O<|.sb 8 1 O<|.bf [9] [0,0,0,0,0] 1 O O<|.ab [4] O ?_;cases h;exact .rv O O ⟨A1,c1,SL,c19,VD,c20,O,O⟩ (zl [0,0,2,1] 0 O)
 refine .sk<|.pf [9] [0,0,0] 1 O O<|.ab [4] O ?_;cases h;exact .rv O O ⟨A1,c1,SL,c19,VD,c20,O,O⟩ (zl [3,3,2,1] 0 O)
theorem zYK:BV Tryz.prog 59:=en Tryz.func59 (by kernel_rfl)
def qG [AO] (BJ:xG) (CV:zA):Option (xG × zA × Int):=
 bif decide ((wrap .i64 ((wrap .i64 (BJ.newest+1)) - (max BJ.tail 1)))>(wrap .i64 (BJ.BL - 2))) then (bif !BJ.overwrite then (some ((⟨BJ.d,BJ.first,BJ.BL,BJ.overwrite,BJ.newest,BJ.tail,BJ.used,BJ.next,BJ.records,true,BJ.number,BJ.held,BJ.ended⟩:xG),CV,9)) else (bnd (qN BJ (wrap .i64 ((max BJ.tail 1)+1)) CV) fun r1=>some (r1.1,r1.2.1,r1.2.2))) else (bnd (qN BJ (max BJ.tail 1) CV) fun r2=>some (r2.1,r2.2.1,r2.2.2))
theorem zBx [AO] {BJ CV A1 c1 A2 c2 A3 c3 BN ES r} (h:qG BJ CV=some r):
    AX Tryz.prog 59 [.pointer (some ⟨BN,0,none⟩)] [.res (Box BN 124 (wR BJ ES A1 c1)), .res (zD xV 155 A1 c1 BJ.records), .res (Box ES 112 (zJ CV A2 c2 A3 c3)), .res (zD AP 5 A2 c2 CV.bytes), .res (zD xA 3 A3 c3 CV.AY)] (fun v F=>∃ A4 c4 A5 c5 A6 c6,v= .int .i64 r.2.2∧F= [.res (Box BN 124 (wR r.1 ES A4 c4)), .res (zD xV 155 A4 c4 r.1.records), .res (Box ES 112 (zJ r.2.1 A5 c5 A6 c6)), .res (zD AP 5 A5 c5 r.2.1.bytes), .res (zD xA 3 A6 c6 r.2.1.AY)]):=by
 refine AX.intro Tryz.func59 O O O fun w R=>?_;refine .ab [0] O<|.a 3 O<|.lb 5 0 O<|.b [0,3] O<|.seq<|.seq<|.regionF mixed (by kernel_rfl)<|.n 3 O<|.lb 4 0 O<|.n 6 O<|.lb 2 0 O<|.bq [0,3,21] O<|.cb h O (fun h=>?_) (fun h=>?_)
 ·refine .seq<|.a 3 O<|.lb 3 0 O<|.b [0,3,26] O<|.cb h O (fun h=>?_) (fun h=>?_)
  ·refine .a 3 O<|.sb 9 0 O<|.b [] O<|.ae O ?_;cases h;exact .rv O O ⟨A1,c1,A2,c2,A3,c3,O,O⟩ zw
  refine .sk<|.pr [0,3] O<|.region<|.b [0,3] O<|.a 2 O<|.bd h fun r1 hr1 h=>.call (iT (BN:=BN) (ES:=ES) hr1) zSw O O O (fun _ w=>w) ?_;rintro _ _ ⟨A4,c4,A5,c5,A6,c6,rfl,rfl⟩;refine .nm 5 O<|.b [2] O ?_;cases h;exact .rv O O ⟨A4,c4,A5,c5,A6,c6,O,O⟩ zw
 refine .sk<|.pr [0,3] O<|.a 2 O<|.bd h fun r2 hr2 h=>.call (iT (BN:=BN) (ES:=ES) hr2) zSw O O O (fun _ w=>w) ?_;rintro _ _ ⟨A7,c7,A8,c8,A9,c9,rfl,rfl⟩;refine .nm 5 O<|.b [2] O ?_;cases h;exact .rv O O ⟨A7,c7,A8,c8,A9,c9,O,O⟩ zw
theorem zYb:BV Tryz.prog 60:=en Tryz.func60 (by kernel_rfl)
def pD (DX:zU):Option ((List Int) × Int):=
 bnd (sF DX) fun r1=>bif !r1 then (some ([],1)) else (bnd ((bif DX.CY then (some (CZ .u8 DX.FC 128)) else (some DX.FC):Option Int)) fun o1=>some ([wrap .u8 DX.ID,wrap .u8 (xP .u16 DX.ID 8),2,wrap .u8 DX.Time,wrap .u8 (xP .u32 DX.Time 8),wrap .u8 (xP .u32 DX.Time 16),wrap .u8 (xP .u32 DX.Time 24),wrap .u8 DX.DF,wrap .u8 (xP .u16 DX.DF 8),4,DX.DI,DX.EU,o1,DX.Data.e0,DX.Data.e1,DX.Data.e2],0))
theorem zFT {DX r} (h:pD DX=some r):
    AX Tryz.prog 60 [.agg (jD DX).toArray] [] (fun v F=>∃ A1 c1,v= .tuple #[.slice A1 r.1.length c1, .int .i64 r.2]∧F= [.res (zD AP 5 A1 c1 r.1)]):=by
 refine AX.intro Tryz.func60 O O O fun w R=>?_;refine .seq<|.region<|.box O O fun g1=>.b [1] O<|.seq<|.seq<|.region<|.lb 0 0 O<|.bd h fun r1 hr1 h=>.cv [] (eL hr1) Vf O<|.b [1,7] O<|.cb h O (fun h=>?_) (fun h=>?_)
 ·refine .EQ [2,3] [] 1 O O<|.AQ (fun _ w=>w.EH AP 5) ?_;cases h;exact .rv O O ⟨none,0,O,O⟩ zw
 refine .sk<|.pr [1] O<|.a 1 O<|.lb 5 0 O<|.b [1,4] O<|.seq<|.bd h fun o1 hj1 h=>.DZ 0 (fun (e1:Unit)=>[1, .s 4 (.int .u8 o1)]) (fun e1=>[]) O O ?_ ?_
 ·refine .a 1 O<|.lb 6 0 O<|.b [1,4,11] O<|.cb hj1 O (fun hj1=>?_) (fun hj1=>?_)
  ·refine .region ?_;cases hj1;exact .be O<|.hU O zw
  cases hj1;exact .sk<|.hU O zw
 rintro e1;refine .a 1 O<|.lb 0 0 O<|.n 2 O<|.lb 0 0 O<|.n 3 O<|.lb 1 0 O<|.n 2 O<|.lb 1 0 O<|.n 3 O<|.lb 1 0 O<|.n 3 O<|.lb 1 0 O<|.n 3 O<|.lb 2 0 O<|.n 2 O<|.lb 2 0 O<|.n 3 O<|.lb 3 0 O<|.p O O<|.lb 4 0 O<|.n 3 O<|.lb 7 0 O<|.n 2 O<|.lb 8 0 O<|.n 2 O<|.lb 9 0 O<|.bS O fun g2=>.bf [2,3] [0] 1 O O<|.AQ (fun _ w=>w.IB (E:=AP) (e:=5) [wrap .u8 DX.ID,wrap .u8 (xP .u16 DX.ID 8),2,wrap .u8 DX.Time,wrap .u8 (xP .u32 DX.Time 8),wrap .u8 (xP .u32 DX.Time 16),wrap .u8 (xP .u32 DX.Time 24),wrap .u8 DX.DF,wrap .u8 (xP .u16 DX.DF 8),4,DX.DI,DX.EU,o1,DX.Data.e0,DX.Data.e1,DX.Data.e2] O O) ?_;cases h;exact .rv O O ⟨(some ⟨g2,0,none⟩),([wrap .u8 DX.ID,wrap .u8 (xP .u16 DX.ID 8),2,wrap .u8 DX.Time,wrap .u8 (xP .u32 DX.Time 8),wrap .u8 (xP .u32 DX.Time 16),wrap .u8 (xP .u32 DX.Time 24),wrap .u8 DX.DF,wrap .u8 (xP .u16 DX.DF 8),4,DX.DI,DX.EU,o1,DX.Data.e0,DX.Data.e1,DX.Data.e2]:List Int).length,O,O⟩ zw
theorem zVH:BV Tryz.prog 25:=en Tryz.func25 (by kernel_rfl)
def wW [AO] (BJ:xG) (CW:zU) (CV:zA):Option (xG × zA × Int × Int):=
 bnd (vY BJ CV) fun r1=>bif r1.2 then (some (r1.1,CV,0,10)) else (bnd ((bnd (sF CW) fun r2=>bif !r2 then (some true) else (some (CW.ID != 0)):Option Bool)) fun o1=>bif o1 then (some (r1.1,CV,0,1)) else (bnd ((bnd ((bif (r1.1.newest==0) then (some true) else (bnd (iZ r1.1.d) fun bb1=>bnd (zK CV) fun r3=>bnd (nB r3) fun r4=>some (r1.1.used==r4)):Option Bool)) fun o4=>bif o4 then (bnd (qG r1.1 CV) fun r5=>bif (r5.2.2 != 0) then (bnd (vY r5.1 r5.2.1) fun r6=>some (.inl (r6.1,r5.2.1,0,r5.2.2))) else (some (.inr (r5.1,r5.2.1)))) else (some (.inr (r1.1,CV))):Option ((xG × zA × Int × Int) ⊕ (xG × zA)))) fun o2=>wN o2 fun o3=>bnd (pD (⟨o3.1.next,CW.Time,CW.DF,CW.DI,CW.EU,CW.FC,CW.CY,CW.Data⟩:zU)) fun r7=>bnd (TV (wrap .i64 (o3.1.newest - 1)) o3.1.BL) fun q1=>bnd (iZ o3.1.d) fun bb2=>bnd (zK o3.2) fun r8=>bnd (app 1 r7.1 [0]) fun l1=>bnd (iZ o3.1.d) fun bb3=>bnd (yJ o3.2 (wrap .i64 ((wrap .i64 ((wrap .i64 ((wrap .i64 (o3.1.first+q1))*r8))+11))+(wrap .i64 (o3.1.used*17)))) l1) fun r9=>bif (r9.2 != 0) then (bnd (vY o3.1 r9.1) fun r10=>some (r10.1,r9.1,0,r9.2)) else (bnd (app 32 o3.1.records [(⟨o3.1.newest,(⟨o3.1.next,CW.Time,CW.DF,CW.DI,CW.EU,CW.FC,CW.CY,CW.Data⟩:zU)⟩:gY)]) fun l2=>bnd (tO o3.1.next) fun r11=>some ((⟨o3.1.d,o3.1.first,o3.1.BL,o3.1.overwrite,o3.1.newest,o3.1.tail,wrap .i64 (o3.1.used+1),r11,l2,o3.1.full,o3.1.number,o3.1.held,o3.1.ended⟩:xG),r9.1,o3.1.next,0))))
theorem gV [AO] {BJ CW CV A1 c1 A2 c2 A3 c3 BN ES r} (h:wW BJ CW CV=some r):
    AX Tryz.prog 25 [.pointer (some ⟨BN,0,none⟩), .agg (jD CW).toArray] [.res (Box BN 124 (wR BJ ES A1 c1)), .res (zD xV 155 A1 c1 BJ.records), .res (Box ES 112 (zJ CV A2 c2 A3 c3)), .res (zD AP 5 A2 c2 CV.bytes), .res (zD xA 3 A3 c3 CV.AY)] (fun v F=>∃ A4 c4 A5 c5 A6 c6,v= .tuple #[.int .u16 r.2.2.1, .int .i64 r.2.2.2]∧F= [.res (Box BN 124 (wR r.1 ES A4 c4)), .res (zD xV 155 A4 c4 r.1.records), .res (Box ES 112 (zJ r.2.1 A5 c5 A6 c6)), .res (zD AP 5 A5 c5 r.2.1.bytes), .res (zD xA 3 A6 c6 r.2.1.AY)]):=by
 refine AX.intro Tryz.func25 O O O fun w R=>?_;refine .seq<|.region<|.box O O fun g1=>.b [0,3] O<|.seq<|.a 1 O<|.bd h fun r1 hr1 h=>.cr 6 [] [1,1,1,1,1] 0 (nQ (BN:=BN) (ES:=ES) hr1) Vh O fun A4 c4=>.b [0,3,12] O<|.cb h O (fun h=>?_) (fun h=>?_)
 ·refine .EQ [4,5] [0,0,0,0,0] 1 O O ?_;cases h;exact .rv O O ⟨A4,c4,A2,c2,A3,c3,O,O⟩ zw
 refine .sk<|.pr [0,3] O<|.seq<|.seq<|.bd h fun o1 hj1 h=>.DZ 0 (fun (e1:Unit)=>[0,3, .s 20 (.bool o1)]) (fun e1=>[]) O O ?_ ?_
 ·refine .region<|.lb 0 5 O<|.bd hj1 fun r2 hr2 hj1=>.cv [] (eL hr2) Vf O<|.n 2 O<|.gs 16 hj1 O (fun hj1=>?_) (fun hj1=>?_)
  ·cases hj1;exact .be O<|.hU O zw
  refine .n 1 O<|.BR O O<|.lb 0 5 O ?_;cases hj1;exact .be O<|.hU O zw
 rintro e1;refine .cb h O (fun h=>?_) (fun h=>?_)
 ·refine .EQ [4,5] [0,0,0,0,0] 1 O O ?_;cases h;exact .rv O O ⟨A4,c4,A2,c2,A3,c3,O,O⟩ zw
 refine .sk<|.pr [0,3] O<|.seq<|.bd h fun o2 hj2 h=>.EJ 5 (fun (o3:xG × zA) (e2:Option Addr × Nat × Option Addr × Nat × Option Addr × Nat)=>[0,3]) (fun o3 e2=>[.res (zD xA 3 e2.2.2.2.2.1 e2.2.2.2.2.2 o3.2.AY), .res (zD AP 5 e2.2.2.1 e2.2.2.2.1 o3.2.bytes), .res (zD xV 155 e2.1 e2.2.1 o3.1.records), .res (Box BN 124 (wR o3.1 ES e2.1 e2.2.1)), .res (Box ES 112 (zJ o3.2 e2.2.2.1 e2.2.2.2.1 e2.2.2.2.2.1 e2.2.2.2.2.2))]) O O (fun o3=>o2= .inr o3) ?_ ?_
 ·refine .seq<|.bd hj2 fun o4 hj3 hj2=>.cu 0 [0,3, .s 38 (.bool o4)] [] O O ?_ ?_
  ·refine .BG (iN [0,4,8,13,16,20,24,28,32,36,40,44,48,53,59,62,64,68] .nil) _ mixed (by kernel_rfl) zw<|.yn 3 O<|.yx 4 0 O<|.yn 2 O<|.sB 26 hj3 O (fun hj3=>?_) (fun hj3=>?_)
   ·refine .yn 12 O<|.BX ?_;cases hj3;exact .AB<|.hU O zw
   refine .yn 3 O<|.LV O O<|.yl 6 0 O<|.yn 3 O<|.LV O O<|.yx 0 0 O<|.LV O O<|.BZ<|.bd hj3 fun bb1 NW hj3=>?_;refine .ss 34 (rX NW)<|.bd hj3 fun r3 hr3 hj3=>.cq 6 [] [2,2,2] 0 (yR hr3) dK O<|.xk (zl [3,3] 0 O)<|.LV O O<|.bd hj3 fun r4 hr4 hj3=>.YC (fun _ h=>h) (cC hr4) zVz O O O O trivial<|.yn 2 O<|.BX ?_;cases hj3;exact .AB<|.hU O (zl [3,3] 0 O)
  refine .cb hj2 O (fun hj2=>?_) (fun hj2=>?_)
  ·refine .a 1 O<|.bd hj2 fun r5 JF hj2=>.call (zBx (BN:=BN) (ES:=ES) JF) zYK O O O (fun _ w=>w) ?_;rintro _ _ ⟨A8,c8,A9,c9,MR,c10,rfl,rfl⟩;refine .nm 6 O<|.b [0,3,6] O<|.ab [0,3,6,42] O<|.cb hj2 O (fun hj2=>?_) (fun hj2=>?_)
   ·refine .a 1 O<|.bd hj2 fun r6 KZ hj2=>.cr 6 [] [] 0 (nQ (BN:=BN) (ES:=ES) KZ) Vh O fun OQ c11=>.bf [6] [0,0,0,0,0] 1 O O<|.ab [4,5] O ?_;cases hj2;have h:some _=some _:=h;cases h;exact .rv O O ⟨OQ,c11,A9,c9,MR,c10,O,O⟩ zw
   cases hj2;exact .sk<|.DN (r5.1,r5.2.1) (A8,c8,A9,c9,MR,c10) O (zb O) (zl [4,3,1] 0 O)
  cases hj2;exact .sk<|.DN (r1.1,CV) (A4,c4,A2,c2,A3,c3) O (zb O) (zl [4,3,1] 0 O)
 rintro o3 ⟨A5,c5,A6,c6,A7,c7⟩ ho;subst ho;have h:=IV h;refine .a 3 O<|.lb 7 3 O<|.p O O<|.sb 0 5 O<|.b [0,3] O<|.seq<|.region<|.lb 0 0 O<|.bd h fun r7 PI h=>.cr 7 [] [] 0 (zFT PI) zYb O fun WE c12=>.b [0,3,7] O<|.seq<|.BG (iN [0,4,8,12,16,20,24,28,32,36,40,44,48,52,56,60,64,68,73,88,92,96,100,104,79,80,84,108,112] .nil) _ mixed (by kernel_rfl) zw<|.yn 3 O<|.yl 1 5 O<|.yn 3 O<|.yl 4 5 O<|.yn 4 O<|.yl 2 5 O<|.bd h fun q1 hq1 h=>.IG (fun _ h=>h) (Rd.rem hq1 O O) O<|.yn 4 O<|.yx 0 5 O<|.yn 3 O<|.yl 6 5 O<|.yn 1 O<|.BZ<|.bd h fun bb2 NY h=>?_;refine .ss 74 (rX NY)<|.bd h fun r8 SH h=>.cq 7 [] [6,3,2] 0 (yR SH) dK O<|.xk (zl [3,3,2,1,1,1] 0 O)<|.yn 4 O<|.BX<|.AB<|.pr [0,3,7,9] O<|.seq<|.seq<|.BG (iN [0,4,8,12,16,20,27,31,35,36] .nil) _ mixed (by kernel_rfl) (zl [] 4 O)<|.yn 3 O<|.yl 0 2 O<|.yn 2 O<|.BZ<|.bS O fun g2=>.xk (zl [] 5 O)<|.BZ<|.bd h fun l1 hl1 h=>.app (E:=AP) hl1 O O O (FX 4 O) O O O O O O O O (oP (.head _) O O) O O fun MQ c13=>.xk (zl [] 5 O)<|.BZ<|.bd h fun bb3 OT h=>?_;refine .ss 87 (rX OT)<|.AQ (fun _ w=>w.CO)<|.bd h fun r9 XH h=>.ct 8 [3] [2,2,2] 0 (wV XH) ig O fun LD c14 PK c15=>.xk (zl [] 5 O)<|.yn 1 O<|.BX<|.AB<|.pf [0,3,10] [0,0,0] 2 O O<|.ab [0,3,10,94] O<|.cb h O (fun h=>?_) (fun h=>?_)
 ·refine .a 1 O<|.bd h fun r10 NT h=>.cr 6 [] [5,4] 0 (nQ (BN:=BN) (ES:=ES) NT) Vh O fun SK c16=>.bf [10] [0,0,0,0,0] 1 O O<|.ab [4,5] O ?_;cases h;exact .rv O O ⟨SK,c16,LD,c14,PK,c15,O,O⟩ zw
 refine .sk<|.pr [0,3] O<|.seq<|.bd h fun l2 hl2 h=>.BG (iN [0,4,8,12,20,24,28,36] (.alt (iN [19] (iN [35,40] (iN [47] (iN [51,52,56] (iN [63] .nil))))) (iN [35,40] (.alt (iN [19] (iN [47] (iN [51,52,56] (iN [63] .nil)))) (iN [47] (iN [19] (iN [51,52,56] (iN [63] .nil)))))))) _ mixed (by kernel_rfl) (zl [0,0,0,0] 2 O)<|.EC (Y:=?JE) 0 (fun (e:Nat)=>[0,3, .s 98 (.pointer (some ⟨BN,0,none⟩)), .s 102 (.slice A5 o3.1.records.length c5), .s 106 (.int .i64 o3.1.newest), .s 107 (.agg #[.int .u16 o3.1.next, .int .u32 CW.Time, .int .u16 CW.DF, .int .u8 CW.DI, .int .u8 CW.EU, .int .u8 CW.FC, .bool CW.CY, .int .u8 CW.Data.e0, .int .u8 CW.Data.e1, .int .u8 CW.Data.e2]), .s 109 (.slice (some ⟨e,0,none⟩) 1 1)]) (fun e=>[.res (Box e 155 [.int .i64 o3.1.newest, .int .u16 o3.1.next, .int .u32 CW.Time, .int .u16 CW.DF, .int .u8 CW.DI, .int .u8 CW.EU, .int .u8 CW.FC, .bool CW.CY, .int .u8 CW.Data.e0, .int .u8 CW.Data.e1, .int .u8 CW.Data.e2])]) O O (fun DT=>?EW) ?EX
 case EW=>
  refine .EC (Y:=?LX) 0 (fun (e:Unit)=>[0,3, .s 98 (.pointer (some ⟨BN,0,none⟩)), .s 102 (.slice A5 o3.1.records.length c5), .s 106 (.int .i64 o3.1.newest), .s 107 (.agg #[.int .u16 o3.1.next, .int .u32 CW.Time, .int .u16 CW.DF, .int .u8 CW.DI, .int .u8 CW.EU, .int .u8 CW.FC, .bool CW.CY, .int .u8 CW.Data.e0, .int .u8 CW.Data.e1, .int .u8 CW.Data.e2]), .s 108 (.agg #[.int .i64 o3.1.newest, .int .u16 o3.1.next, .int .u32 CW.Time, .int .u16 CW.DF, .int .u8 CW.DI, .int .u8 CW.EU, .int .u8 CW.FC, .bool CW.CY, .int .u8 CW.Data.e0, .int .u8 CW.Data.e1, .int .u8 CW.Data.e2])]) (fun e=>[]) O O (fun FK=>?IJ) ?IK
  case IJ=>
   refine .yn 7 O<|.yl 0 3 O<|.GZ ?_ ?_
   ·refine .BZ<|.lb 8 5 O<|.xk (zl [0,0,0,0] 2 O)<|.BZ<|.lb 4 5 O<|.xk (zl [0,0,0,0] 2 O)<|.yn 1 O ?_;refine FK _ _ () ?_ ?_
    ·exact ⟨O,O,O,O,O,O,O,trivial⟩
    exact fun _ w=>w
   refine .BZ<|.lb 4 5 O<|.xk (zl [0,0,0,0] 2 O)<|.yn 1 O<|.GZ ?_ ?_
   ·refine .BZ<|.lb 8 5 O<|.xk (zl [0,0,0,0] 2 O) ?_;refine FK _ _ () ?_ ?_
    ·exact ⟨O,O,O,O,O,O,O,trivial⟩
    exact fun _ w=>w
   refine .BZ<|.bS O fun g3=>.xk (zl [1,1,1,1] 3 O)<|.BZ<|.lb 8 6 O<|.xk (zl [1,1,1,1] 3 O) ?_;refine DT _ _ g3 ?_ ?_
   ·exact ⟨O,O,O,O,O,O,O,trivial⟩
   exact fun _ w=>w
  case IK=>
   rintro ⟨⟩;refine .nm 6 O<|.BZ<|.bS O fun g3=>.xk (zl [1,1,1,1] 3 O) ?_;refine DT _ _ g3 ?_ ?_
   ·exact ⟨O,O,O,O,O,O,O,trivial⟩
   exact fun _ w=>w
 case EX=>
  rintro g3;refine .nm 7 O<|.BZ<|.app (E:=xV) hl2 O O O (FX 5 O) O O O O O O O O (oP (.head _) O O) O O fun TJ c17=>.xk (zl [2,2,2,2] 3 O)<|.yn 2 O<|.BZ<|.sb 8 6 O<|.xk (zl [] 3 O)<|.BX<|.AB<|.pf [0,3] [0,0] 1 O O<|.a 3 O<|.lb 6 0 O<|.n 3 O<|.sb 6 0 O<|.b [0,3] O<|.a 2 O<|.lb 0 5 O<|.bd h fun r11 UJ h=>.cv [] (fQ UJ) zVa O<|.n 2 O<|.sb 7 0 O<|.b [3] O<|.a 1 O<|.lb 0 5 O<|.bf [4,5] [0,0,0,0,0] 1 O O ?_;cases h;exact .rv O O ⟨TJ,c17,LD,c14,PK,c15,O,O⟩ zw
theorem zYq:BV Tryz.prog 29:=en Tryz.func29 (by kernel_rfl)
def mI (BJ:xG):Option Int:=
 some (BJ.records.length:Int)
theorem zCf {BJ A1 c1 BN ES r} (h:mI BJ=some r):
    AX Tryz.prog 29 [.pointer (some ⟨BN,0,none⟩)] [.res (Box BN 124 (wR BJ ES A1 c1)), .res (zD xV 155 A1 c1 BJ.records)] (fun v F=>v= .int .i64 r∧F= [.res (Box BN 124 (wR BJ ES A1 c1)), .res (zD xV 155 A1 c1 BJ.records)]):=by
 unfold mI at h
 refine AX.intro Tryz.func29 O O O fun w R=>?_;refine .ab [0] O<|.a 3 O<|.lb 8 0 O<|.b [2] O ?_;cases h;exact .rv O O ⟨O,O⟩ zw
theorem zZe:BV Tryz.prog 4:=en Tryz.func4 (by kernel_rfl)
def zFa [AO]:Option Bool:=
 bnd (zBC ([(⟨1,1,0,⟨#[116]⟩,(⟨0,0⟩:wG),false,(⟨1,false,1,0,0,0, []⟩:nD),(⟨8,(⟨0,0,0,80,0,0⟩:(qm Int))⟩:bY),0,0,0,8,0,false,1⟩:xW)]) ([])) fun r1=>bnd (lC 2 64) fun r2=>SA r2.1 (none) (fun q1=>bif (r1.2 != 0) then (none) else (bif (r2.2 != 0) then (none) else (bnd (uT q1 0 2 false) fun r3=>SA r3.2.1 (none) (fun q2=>bnd (kC r1.1 ([(⟨1,true,80,0⟩:lP)]) ([]) true) fun r4=>bif (r3.2.2 != 0) then (none) else (bif (r4.2.2 != 0) then (none) else (bif ((r4.2.1.length:Int) != 1) then (none) else (bnd (AU r4.2.1 0) fun x1=>bnd (wW q2 x1 r3.1) fun r5=>bif (r5.2.2.2==0) then (bif (r5.2.2.1==1) then (bnd (mI r5.1) fun r6=>some (r6==1)) else (none)) else (none))))))))
theorem zMq [AO] {r:Bool} (h:zFa=some r):
    AX Tryz.prog 4 [] [.ro (BP AP (some ⟨1,0,none⟩) 6 ([0,2,4,7,9,11]:List Int))] (Val (.bool r)):=by
 refine AX.intro Tryz.func4 O O O fun w R=>?_;refine .ab [] O<|.a 4 O<|.alloc O O fun g1=>.sb 0 0 O<|.b [1] O<|.seq<|.region<|.lb 0 0 O<|.bS O fun g2=>.AQ (fun _ w=>w.CS (DC vD))<|.AQ (fun _ w=>Sat.XA (ls:=yI) (e:=90) [((⟨1,1,0,⟨#[116]⟩,(⟨0,0⟩:wG),false,(⟨1,false,1,0,0,0, []⟩:nD),(⟨8,(⟨0,0,0,80,0,0⟩:(qm Int))⟩:bY),0,0,0,8,0,false,1⟩:xW),((none,0),()))] O O O ⟨(.head _),trivial⟩ (w.sl [1] 0 O))<|.AQ (fun _ w=>w.IZ)<|.AQ (fun _ w=>w.CS (DC zX))<|.bd h fun r1 hr1 h=>.call (zHV hr1) zYR O O O (zd [1,0] [] 0 O) ?_;rintro _ _ ⟨g3,A1,c1,A2,c2,A3,c3,A4,c4,rfl,rfl⟩;refine .nm 10 O<|.bf [2,3] [0,0,0,0,0] 4 O O<|.seq<|.region<|.bd h fun r2 hr2 h=>.call (zEO hr2) zVM O O O (fun _ w=>w) ?_
 intro v_ F_ FU
 rcases hq1:r2.1 with _ | q1
 ·replace h:=eZ hq1 h;cases h
 replace FU:=eU hq1 FU;replace h:=eN hq1 h;obtain ⟨g4,A5,c5,A6,c6,rfl,rfl⟩:=FU;refine .nm 9 O<|.b [2,3,4,5] O<|.seq<|.a 11 O<|.gs 36 h O (fun h=>?_) (fun h=>?_)
 ·cases h
 refine .b [2,4,39] O<|.cb h O (fun h=>?_) (fun h=>?_)
 ·cases h
 refine .sk<|.pr [2,4] O<|.a 1 O<|.bd h fun r3 hr3 h=>.call (pT hr3) Bz O O O (fun _ w=>w) ?_
 intro v_ F_ FU
 rcases hq2:r3.2.1 with _ | q2
 ·replace h:=eZ hq2 h;cases h
 replace FU:=eU hq2 FU;replace h:=eN hq2 h;obtain ⟨g5,A9,c9,MR,c10,OQ,c11,rfl,rfl⟩:=FU;refine .nm 11 O<|.b [2,6,7] O<|.a 2 O<|.bS O fun g6=>.AQ (fun _ w=>w.IB (E:=Jg) (e:=97) [(⟨1,true,80,0⟩:lP)] O O)<|.AQ (fun _ w=>w.CO)<|.AQ (fun _ w=>w.CS (DC sS))<|.bd h fun r4 hr4 h=>.call (aO hr4) zYu O O O (zd [10,11,4,3,12] [9,9,9] 0 O) ?_;rintro _ _ ⟨WE,c12,MQ,c13,LD,c14,PK,c15,SK,c16,rfl,rfl⟩;refine .nm 16 O<|.bf [6,7,8,9] [5,7,7,7,7,7] 9 O O<|.seq<|.a 7 O<|.gs 58 h O (fun h=>?_) (fun h=>?_)
 ·cases h
 refine .n 4 O<|.gs 62 h O (fun h=>?_) (fun h=>?_)
 ·cases h
 refine .b [6,8,66] O<|.cb h O (fun h=>?_) (fun h=>?_)
 ·cases h
 refine .sk<|.pr [6,8] O<|.a 2 O<|.bd h fun x1 hx1 h=>.II hx1 0 O fun g7 hA=>?_;subst hA;refine .EZ 0 hx1 O O (.head _) O O<|.bd h fun r5 JF h=>.call (gV (BN:=g5) (ES:=g4) JF) zVH O O O (zl [4,4,1,1,1] 0 O) ?_;rintro _ _ ⟨TJ,c17,VB,c18,SL,c19,rfl,rfl⟩;refine .nm 7 O<|.bf [6,10,11] [0,0,0,0,0] 1 O O<|.a 3 O<|.gs 77 h O (fun h=>?_) (fun h=>?_)
 ·refine .n 4 O<|.gs 81 h O (fun h=>?_) (fun h=>?_)
  ·refine .n 1 O<|.BR O O<|.bd h fun r6 KZ h=>.cq 6 [] [] 0 (zCf (BN:=g5) KZ) zYq O<|.bf [0] [] 5 O O ?_;cases h;exact .rv O O ⟨O,O⟩ (zl [] 1 O)
  cases h
 cases h
theorem zYt:BV Tryz.prog 5:=en Tryz.func5 (by kernel_rfl)
def kG (BM:(List Int)):Option Bool:=
 some (decide ((BM.length:Int)≤600))
theorem zDr {BM A1 c1 r} (h:kG BM=some r):
    AX Tryz.prog 5 [.slice A1 BM.length c1] [.ro (BP xA A1 c1 BM)] (Val (.bool r)):=by
 unfold kG at h
 refine AX.intro Tryz.func5 O O O fun w R=>?_;refine .ab [0] O<|.EQ [2] [] 1 O O ?_;cases h;exact .rv O O ⟨O,O⟩ zw
theorem zYc:BV Tryz.prog 6:=en Tryz.func6 (by kernel_rfl)
def jT (BM:(List Int)):Option sE:=
 some (⟨BM,0⟩:sE)
theorem zEN {BM A1 c1 r} (h:jT BM=some r):
    AX Tryz.prog 6 [.slice A1 BM.length c1] [.ro (BP xA A1 c1 BM)] (fun v F=>∃ g1 A2 c2,v= .pointer (some ⟨g1,0,none⟩)∧F= [.ro (BP xA A2 c2 r.L), .res (Box g1 101 [.slice A2 r.L.length c2, .int .i64 r.At])]):=by
 unfold jT at h
 refine AX.intro Tryz.func6 O O O fun w R=>?_;refine .ab [0] O<|.a 2 O<|.box O O fun g1=>.b [2] O ?_;cases h;exact .rv O O ⟨g1,A1,c1,O,O⟩ (zk 2 1 [1] [] 0 O)
theorem Vl:BV Tryz.prog 12:=en Tryz.func12 (by kernel_rfl)
def oR (EM:Int) (KW:Int):Option Int:=
 bnd (TV EM KW) fun q1=>bif decide (q1<0) then (some (wrap .i64 (q1+KW))) else (some q1)
theorem Vm {EM KW r} (h:oR EM KW=some r):
    AX Tryz.prog 12 [.int .i64 EM, .int .i64 KW] [] (Val (.int .i64 r)):=by
 refine AX.intro Tryz.func12 O O O fun w R=>?_;refine .ab [0,1] O<|.a 2 O<|.bd h fun q1 hq1 h=>.rem O O O hq1<|.b [0,1] O<|.seq<|.ab [0,1,9] O<|.cb h O (fun h=>?_) (fun h=>?_)
 ·refine .region<|.b [0] O<|.ab [4] O ?_;cases h;exact .rv O O ⟨O,O⟩ zw
 refine .sk<|.pr [0] O<|.ab [4] O ?_;cases h;exact .rv O O ⟨O,O⟩ zw
theorem qw:BV Tryz.prog 7:=en Tryz.func7 (by kernel_rfl)
def wL (BD:sE) (MW:Int):Option (sE × Int):=
 bif decide (BD.At≥(BD.L.length:Int)) then (some (BD,0)) else (bnd (AU BD.L (wrap .i64 ((wrap .i64 (BD.At+1)) - 1))) fun x1=>bnd (oR x1 MW) fun r1=>some ((⟨BD.L,wrap .i64 (BD.At+1)⟩:sE),r1))
theorem sL {BD MW A1 c1 BN r} (h:wL BD MW=some r):
    AX Tryz.prog 7 [.pointer (some ⟨BN,0,none⟩), .int .i64 MW] [.ro (BP xA A1 c1 BD.L), .res (Box BN 101 [.slice A1 BD.L.length c1, .int .i64 BD.At])] (fun v F=>∃ A2 c2,v= .int .i64 r.2∧F= [.ro (BP xA A2 c2 r.1.L), .res (Box BN 101 [.slice A2 r.1.L.length c2, .int .i64 r.1.At])]):=by
 refine AX.intro Tryz.func7 O O O fun w R=>?_;refine .ab [0,1] O<|.seq<|.seq<|.regionF mixed (by kernel_rfl)<|.n 3 O<|.lb 1 1 O<|.n 3 O<|.lb 0 1 O<|.bq [0,1,14] O<|.cb h O (fun h=>?_) (fun h=>?_)
 ·refine .ab [4] O ?_;cases h;exact .rv O O ⟨A1,c1,O,O⟩ (zk 2 1 [1] [1] 0 O)
 refine .sk<|.pr [0,1] O<|.a 3 O<|.lb 1 1 O<|.n 3 O<|.sb 1 1 O<|.b [0,1] O<|.seq<|.regionF mixed (by kernel_rfl)<|.n 3 O<|.lb 0 0 O<|.n 3 O<|.lb 1 0 O<|.p O O<|.bd h fun x1 hx1 h=>.FB hx1 1 O fun b1 ED=>.ld ED 0 0 O<|.p O O<|.bd h fun r1 hr1 h=>.cv [] (Vm hr1) Vl O<|.beq O<|.pf [4] [] 1 O O ?_;cases h;exact .rv O O ⟨A1,c1,O,O⟩ (zk 2 1 [1] [] 0 O)
theorem zYC:BV Tryz.prog 10:=en Tryz.func10 (by kernel_rfl)
def pB [AO] (BD:sE) (alphabet:ByteArray) (JS:Int):Option (sE × ByteArray):=
 bnd (zI (τ:=ByteArray × List Int × Int) (fun (s1:ByteArray × Int × List Int × Int)=>bif decide (s1.2.1<JS) then (bnd (wL (⟨s1.2.2.1,s1.2.2.2⟩:sE) (alphabet.size:Int)) fun r1=>bnd (FY alphabet r1.2 (wrap .i64 (r1.2+1))) fun t1=>bnd (JK s1.1 t1) fun t2=>some (.next (t2,wrap .i64 (s1.2.1+1),r1.1.L,r1.1.At))) else (some (.done (s1.1,s1.2.2.1,s1.2.2.2)))) (⟨#[]⟩,0,BD.L,BD.At)) fun o1=>some ((⟨o1.2.1,o1.2.2⟩:sE),o1.1)
theorem zDG [AO] {BD alphabet JS A1 c1 BN r} (h:pB BD alphabet JS=some r):
    AX Tryz.prog 10 [.pointer (some ⟨BN,0,none⟩), .string alphabet, .int .i64 JS] [.ro (BP xA A1 c1 BD.L), .res (Box BN 101 [.slice A1 BD.L.length c1, .int .i64 BD.At])] (fun v F=>∃ A2 c2,v= .string r.2∧F= [.ro (BP xA A2 c2 r.1.L), .res (Box BN 101 [.slice A2 r.1.L.length c2, .int .i64 r.1.At])]):=by
 refine AX.intro Tryz.func10 O O O fun w R=>?_;refine .ab [0,1,2] O<|.ae O<|.seq<|.ae O<|.bd h fun o1 hl1 h=>.DZ 2 (fun (e2:Option Addr × Nat)=>[.s 7 (.string o1.1)]) (fun e2=>[.ro (BP xA e2.1 e2.2 o1.2.1), .res (Box BN 101 [.slice e2.1 o1.2.1.length e2.2, .int .i64 o1.2.2])]) O O ?_ ?_
 ·refine .block<|.BH hl1 2 (fun (s1:ByteArray × Int × List Int × Int) (e1:Option Addr × Nat)=>[0,1,2, .s 7 (.string s1.1), .s 8 (.int .i64 s1.2.1)]) (fun s1 e1=>[.ro (BP xA e1.1 e1.2 s1.2.2.1), .res (Box BN 101 [.slice e1.1 s1.2.2.1.length e1.2, .int .i64 s1.2.2.2])]) O O (A1,c1) (zb O) (fun _ w=>w) ?_;rintro s1 ⟨A2,c2⟩ st1 hm1 hd1 h1;refine .seq<|.ab [0,1,2,7,8,12] O<|.cb h1 O (fun h1=>?_) (fun h1=>?_)
  ·refine .sk<|.pr [0,1,2,7,8] O<|.seq<|.block<|.a 3 O<|.bd h1 fun r1 hr1 h1=>.cr 3 [1] [1] 0 (sL hr1) qw O fun A4 c4=>.bf [0,1,2,7,8,9] [0,0] 1 O O<|.region<|.n 5 O<|.bd h1 fun t1 ht1 h1=>.FY O O O O O O ht1<|.bd h1 fun t2 ht2 h1=>.JK O O O ht2<|.p O O<|.done<|.BF<|.AB<|.pr [0,1,2,7,8] O<|.region ?_;cases h1;exact .be O<|.ag (A4,c4) hm1 O zw
  refine .xq O ?_;cases h1;cases hd1 _ rfl
  exact .AB<|.hE (A2,c2) O zw
 rintro ⟨A3,c3⟩;refine .ab [6] O ?_;cases h;exact .rv O O ⟨A3,c3,O,O⟩ (zk 2 1 [1] [1] 0 O)
theorem zVS:BV Tryz.prog 13:=en Tryz.func13 (by kernel_rfl)
def uZ (BD:sE) (MW:Int):Option (sE × Bool):=
 bnd (wL BD MW) fun r1=>some (r1.1,(r1.2==(wrap .i64 (MW - 1))))
theorem bG {BD MW A1 c1 BN r} (h:uZ BD MW=some r):
    AX Tryz.prog 13 [.pointer (some ⟨BN,0,none⟩), .int .i64 MW] [.ro (BP xA A1 c1 BD.L), .res (Box BN 101 [.slice A1 BD.L.length c1, .int .i64 BD.At])] (fun v F=>∃ A2 c2,v= .bool r.2∧F= [.ro (BP xA A2 c2 r.1.L), .res (Box BN 101 [.slice A2 r.1.L.length c2, .int .i64 r.1.At])]):=by
 refine AX.intro Tryz.func13 O O O fun w R=>?_;refine .ab [0,1] O<|.a 2 O<|.bd h fun r1 hr1 h=>.cr 3 [1] [1] 0 (sL hr1) qw O fun A2 c2=>.bf [4] [0,0] 1 O O ?_;cases h;exact .rv O O ⟨A2,c2,O,O⟩ (zk 2 1 [1] [1] 0 O)
theorem zYl:BV Tryz.prog 11:=en Tryz.func11 (by kernel_rfl)
def qT (BD:sE):Option (sE × Int):=
 bnd (uZ BD 3) fun r1=>bif r1.2 then (bnd (wL r1.1 8) fun r2=>bnd (AU ([0,1,127,128,254,255,15,240]) r2.2) fun x1=>some (r2.1,x1)) else (bnd (wL r1.1 256) fun r3=>some (r3.1,wrap .u8 r3.2))
theorem zEe {BD A1 c1 BN r} (h:qT BD=some r):
    AX Tryz.prog 11 [.pointer (some ⟨BN,0,none⟩)] [.ro (BP xA A1 c1 BD.L), .res (Box BN 101 [.slice A1 BD.L.length c1, .int .i64 BD.At])] (fun v F=>∃ A2 c2,v= .int .u8 r.2∧F= [.ro (BP xA A2 c2 r.1.L), .res (Box BN 101 [.slice A2 r.1.L.length c2, .int .i64 r.1.At])]):=by
 refine AX.intro Tryz.func11 O O O fun w R=>?_;refine .ab [0] O<|.a 1 O<|.alloc O O fun g1=>.sb 0 0 O<|.AQ (fun _ w=>w.IB (E:=AP) (e:=109) [0,1,127,128,254,255,15,240] O O)<|.b [0,3] O<|.seq<|.a 1 O<|.bd h fun r1 hr1 h=>.cr 4 [2] [2] 0 (bG hr1) zVS O fun A2 c2=>.bf [0,3,6] [0,0,0] 1 O O<|.cb h O (fun h=>?_) (fun h=>?_)
 ·refine .a 1 O<|.bd h fun r2 hr2 h=>.cr 4 [1] [1] 0 (sL hr2) qw O fun A3 c3=>.bd h fun x1 hx1 h=>.Gw (sz:=1) hx1 O O O O O O O O<|.EZ 0 hx1 O O (zm 3 O) O O<|.bf [2] [0,0] 2 O O ?_;cases h;exact .rv O O ⟨A3,c3,O,O⟩ (zk 2 1 [1] [1] 0 O)
 refine .sk<|.pf [0] [0,0] 1 O O<|.a 1 O<|.bd h fun r3 hr3 h=>.cr 3 [1] [1] 0 (sL hr3) qw O fun A4 c4=>.bf [2] [0,0] 1 O O ?_;cases h;exact .rv O O ⟨A4,c4,O,O⟩ (zk 2 1 [1] [1] 0 O)
theorem Vo:BV Tryz.prog 79:=en Tryz.func79 (by kernel_rfl)
def nX (IX:Int):Option Int:=
 bnd ((bif decide (IX≥48) then (some (decide (IX≤57))) else (some false):Option Bool)) fun o1=>bif o1 then (some (wrap .i64 (wrap .u8 (IX - 48)))) else (bif (IX==32) then (some 10) else (bif (IX==45) then (some 11) else (bif (IX==46) then (some 12) else (some (-1)))))
theorem eW {IX r} (h:nX IX=some r):
    AX Tryz.prog 79 [.int .u8 IX] [] (Val (.int .i64 r)):=by
 refine AX.intro Tryz.func79 O O O fun w R=>?_;refine .ab [0] O<|.seq<|.block<|.seq<|.bd h fun o1 hj1 h=>.cu 0 [0, .s 3 (.bool o1)] [] O O ?_ ?_
 ·refine .region<|.n 3 O<|.gs 6 hj1 O (fun hj1=>?_) (fun hj1=>?_)
  ·cases hj1;exact .be O<|.hU O zw
  cases hj1;exact .be O<|.hU O zw
 refine .cb h O (fun h=>?_) (fun h=>?_)
 ·refine .ab [2] O ?_;cases h;exact .rv O O ⟨O,O⟩ zw
 refine .ab [0,13] O<|.cb h O (fun h=>?_) (fun h=>?_)
 ·refine .ab [2] O ?_;cases h;exact .rv O O ⟨O,O⟩ zw
 refine .ab [0,16] O<|.cb h O (fun h=>?_) (fun h=>?_)
 ·refine .ab [2] O ?_;cases h;exact .rv O O ⟨O,O⟩ zw
 refine .ab [19] O<|.cb h O (fun h=>?_) (fun h=>?_)
 ·refine .ab [2] O ?_;cases h;exact .rv O O ⟨O,O⟩ zw
 refine .skip<|.BF<|.AB<|.pr [] O<|.ae O ?_;cases h;exact .rv O O ⟨O,O⟩ zw
theorem zVs:BV Tryz.prog 80:=en Tryz.func80 (by kernel_rfl)
def pC (EM:Int):Option Int:=
 some (wrap .i64 ((wrap .i64 ((wrap .i64 (6*EM))+7)).tdiv 8))
theorem cH {EM r} (h:pC EM=some r):
    AX Tryz.prog 80 [.int .i64 EM] [] (Val (.int .i64 r)):=by
 unfold pC at h
 refine AX.intro Tryz.func80 O O O fun w R=>?_;refine .ab [0] O<|.ab [2] O ?_;cases h;exact .rv O O ⟨O,O⟩ zw
theorem zVQ:BV Tryz.prog 33:=en Tryz.func33 (by kernel_rfl)
def mA [AO] (CQ:zQ):Option Bool:=
 bif (CQ.Kind==0) then (some (decide ((CQ.Value.size:Int)≤63))) else (bif (CQ.Kind==1) then (bnd ((bif (((CQ.Value.size:Int).tmod 2) != 0) then (some true) else (some (decide ((CQ.Value.size:Int)>126))):Option Bool)) fun o1=>bif o1 then (some false) else (bnd (zI (τ:=Bool ⊕ Unit) (fun (s1:Int)=>bif decide (s1<(CQ.Value.size:Int)) then (bnd (DU CQ.Value s1) fun y1=>bnd (nX y1) fun r1=>bif decide (r1<0) then (some (.done (.inl false))) else (some (.next (wrap .i64 (s1+1))))) else (some (.done (.inr ())))) 0) fun o2=>wN o2 fun o3=>some true)) else (bif (CQ.Kind==2) then (bnd ((bif (((CQ.Value.size:Int).tmod 4)==3) then (some true) else (bif decide ((CQ.Value.size:Int)>126) then (some true) else (bnd (pC (CQ.Value.size:Int)) fun r2=>some (decide (r2>63)))):Option Bool)) fun o4=>bif o4 then (some false) else (bnd (zI (τ:=Bool ⊕ Unit) (fun (s2:Int)=>bif decide (s2<(CQ.Value.size:Int)) then (bnd ((bnd (DU CQ.Value s2) fun y2=>bif decide (y2<32) then (some true) else (some (decide (y2>95))):Option Bool)) fun o7=>bif o7 then (some (.done (.inl false))) else (some (.next (wrap .i64 (s2+1))))) else (some (.done (.inr ())))) 0) fun o5=>wN o5 fun o6=>some true)) else (bif (CQ.Kind==3) then (bnd ((bif ((CQ.Value.size:Int)==0) then (some true) else (bif decide ((CQ.Value.size:Int)≥2) then (some (decide ((CQ.Value.size:Int)≤63))) else (some false)):Option Bool)) fun o8=>some o8) else (some false))))
theorem zBA [AO] {CQ r} (h:mA CQ=some r):
    AX Tryz.prog 33 [.agg #[.int .i64 CQ.Kind, .string CQ.Value]] [] (Val (.bool r)):=by
 refine AX.intro Tryz.func33 O O O fun w R=>?_;refine .seq<|.region<|.box O O fun g1=>.b [1] O<|.a 1 O<|.lb 1 0 O<|.b [1,3] O<|.seq<|.a 1 O<|.lb 0 0 O<|.b [1,3,10] O<|.block<|.ab [1,3,10,11] O<|.cb h O (fun h=>?_) (fun h=>?_)
 ·refine .EQ [2] [] 1 O O ?_;cases h;exact .rv O O ⟨O,O⟩ zw
 refine .ab [1,3,10,15] O<|.cb h O (fun h=>?_) (fun h=>?_)
 ·refine .seq<|.seq<|.bd h fun o1 hj1 h=>.cu 0 [1,3, .s 23 (.bool o1)] [] O O ?_ ?_
  ·refine .region<|.n 4 O<|.gs 20 hj1 O (fun hj1=>?_) (fun hj1=>?_)
   ·cases hj1;exact .be O<|.hU O zw
   cases hj1;exact .be O<|.hU O zw
  refine .cb h O (fun h=>?_) (fun h=>?_)
  ·refine .EQ [2] [] 1 O O ?_;cases h;exact .rv O O ⟨O,O⟩ zw
  refine .sk<|.pr [1,3] O<|.seq<|.ae O<|.bd h fun o2 hl1 h=>.EJ 1 (fun (o3:Unit) (e3:Unit)=>[]) (fun o3 e3=>[]) O O (fun o3=>o2= .inr o3) ?_ ?_
  ·refine .block<|.BH hl1 0 (fun (s1:Int) (e2:Unit)=>[1,3, .s 4 (.int .i64 s1)]) (fun s1 e2=>[]) O O () (zb O) (fun _ w=>w) ?_;rintro s1 e2 st1 hm1 hd1 h1;refine .seq<|.ab [1,3,4,26] O<|.cb h1 O (fun h1=>?_) (fun h1=>?_)
   ·refine .sk<|.pr [1,3,4] O<|.seq<|.block<|.a 1 O<|.lb 1 0 O<|.p O O<|.bd h1 fun y1 hy1 h1=>.DU O O O O O hy1<|.bd h1 fun r1 hr1 h1=>.cv [] (eW hr1) Vo O<|.b [1,3,4,34] O<|.cb h1 O (fun h1=>?_) (fun h1=>?_)
    ·refine .EQ [2] [] 1 O O ?_;cases h1;cases hd1 _ rfl
     have h:some _=some _:=h;cases h;exact .rv O O ⟨O,O⟩ zw
    refine .skip<|.BF<|.AB<|.pr [1,3,4] O<|.region ?_;cases h1;exact .be O<|.ag () hm1 O zw
   refine .xq O ?_;cases h1;cases hd1 _ rfl
   exact .AB<|.DN () () O trivial (zl [] 1 O)
  rintro o3 e3 ho;subst ho;have h:=IV h;refine .ae O ?_;cases h;exact .rv O O ⟨O,O⟩ zw
 refine .ab [1,3,10,35] O<|.cb h O (fun h=>?_) (fun h=>?_)
 ·refine .seq<|.seq<|.bd h fun o4 hj2 h=>.cu 0 [1,3, .s 48 (.bool o4)] [] O O ?_ ?_
  ·refine .region<|.n 4 O<|.gs 40 hj2 O (fun hj2=>?_) (fun hj2=>?_)
   ·cases hj2;exact .be O<|.hU O zw
   refine .n 4 O<|.gs 44 hj2 O (fun hj2=>?_) (fun hj2=>?_)
   ·cases hj2;exact .be O<|.hU O zw
   refine .n 1 O<|.BR O O<|.bd hj2 fun r2 hr2 hj2=>.cv [] (cH hr2) zVs O ?_;cases hj2;exact .be O<|.hU O zw
  refine .cb h O (fun h=>?_) (fun h=>?_)
  ·refine .EQ [2] [] 1 O O ?_;cases h;exact .rv O O ⟨O,O⟩ zw
  refine .sk<|.pr [1,3] O<|.seq<|.ae O<|.bd h fun o5 hl2 h=>.EJ 1 (fun (o6:Unit) (e6:Unit)=>[]) (fun o6 e6=>[]) O O (fun o6=>o5= .inr o6) ?_ ?_
  ·refine .block<|.BH hl2 0 (fun (s2:Int) (e5:Unit)=>[1,3, .s 5 (.int .i64 s2)]) (fun s2 e5=>[]) O O () (zb O) (fun _ w=>w) ?_;rintro s2 e5 st2 hm2 hd2 h2;refine .seq<|.ab [1,3,5,51] O<|.cb h2 O (fun h2=>?_) (fun h2=>?_)
   ·refine .sk<|.pr [1,3,5] O<|.seq<|.block<|.seq<|.bd h2 fun o7 hj3 h2=>.cu 0 [1,3,5, .s 65 (.bool o7)] [] O O ?_ ?_
    ·refine .region<|.p O O<|.lb 1 0 O<|.p O O<|.bd hj3 fun y2 hy2 hj3=>.DU O O O O O hy2<|.n 2 O<|.gs 59 hj3 O (fun hj3=>?_) (fun hj3=>?_)
     ·cases hj3;exact .be O<|.hU O zw
     refine .n 1 O<|.BR O O<|.lb 1 0 O<|.n 1 O<|.BR O O<|.DU O O O O O hy2 ?_;cases hj3;exact .be O<|.hU O zw
    refine .cb h2 O (fun h2=>?_) (fun h2=>?_)
    ·refine .EQ [2] [] 1 O O ?_;cases h2;cases hd2 _ rfl
     have h:some _=some _:=h;cases h;exact .rv O O ⟨O,O⟩ zw
    refine .skip<|.BF<|.AB<|.pr [1,3,5] O<|.region ?_;cases h2;exact .be O<|.ag () hm2 O zw
   refine .xq O ?_;cases h2;cases hd2 _ rfl
   exact .AB<|.DN () () O trivial (zl [] 1 O)
  rintro o6 e6 ho;subst ho;have h:=IV h;refine .ae O ?_;cases h;exact .rv O O ⟨O,O⟩ zw
 refine .EQ [3,66] [] 1 O O<|.cb h O (fun h=>?_) (fun h=>?_)
 ·refine .seq<|.bd h fun o8 EL h=>.cu 0 [.s 2 (.bool o8)] [] O O ?_ ?_
  ·refine .region<|.n 3 O<|.gs 70 EL O (fun EL=>?_) (fun EL=>?_)
   ·cases EL;exact .be O<|.hU O zw
   refine .n 3 O<|.gs 73 EL O (fun EL=>?_) (fun EL=>?_)
   ·cases EL;exact .be O<|.hU O zw
   cases EL;exact .be O<|.hU O zw
  cases h;exact .rv O O ⟨O,O⟩ zw
 refine .skip<|.BF<|.AB<|.pr [] O<|.ae O ?_;cases h;exact .rv O O ⟨O,O⟩ zw
theorem zYz:BV Tryz.prog 78:=en Tryz.func78 (by kernel_rfl)
def iW [AO] (CQ:zQ):Option (List Int):=
 bif (CQ.Kind==1) then (bnd (zI (τ:=List Int) (fun (s1:List Int × Int)=>bif decide ((wrap .i64 (s1.2+1))<(CQ.Value.size:Int)) then (bnd (DU CQ.Value s1.2) fun y1=>bnd (nX y1) fun r1=>bnd (DU CQ.Value (wrap .i64 (s1.2+1))) fun y2=>bnd (nX y2) fun r2=>bnd (app 1 s1.1 [wrap .u8 (wrap .i64 ((wrap .i64 (16*r1))+r2))]) fun l1=>some (.next (l1,wrap .i64 (s1.2+2)))) else (some (.done s1.1))) ([],0)) fun o1=>some o1) else (bif (CQ.Kind==2) then (bnd (pC (CQ.Value.size:Int)) fun r3=>bnd (mkS 1 0 r3 r3) fun l2=>bnd (zI (τ:=List Int) (fun (s2:Int × List Int)=>bif decide (s2.1<(CQ.Value.size:Int)) then (bnd (DU CQ.Value s2.1) fun y3=>bnd (zI (τ:=List Int) (fun (s3:Int × Int × List Int)=>bif decide (s3.2.1<6) then (bif ((s3.1.tmod 2)==1) then (bnd (AU s3.2.2 (wrap .i64 ((wrap .i64 ((wrap .i64 (6*s2.1))+s3.2.1)).tdiv 8))) fun x1=>bnd (PG .u8 1 (wrap .u64 ((wrap .i64 ((wrap .i64 (6*s2.1))+s3.2.1)).tmod 8))) fun q1=>bnd (xJ s3.2.2 (wrap .i64 ((wrap .i64 ((wrap .i64 (6*s2.1))+s3.2.1)).tdiv 8)) (wrap .u8 (x1+q1))) fun l3=>some (.next (wrap .i64 (s3.1.tdiv 2),wrap .i64 (s3.2.1+1),l3))) else (some (.next (wrap .i64 (s3.1.tdiv 2),wrap .i64 (s3.2.1+1),s3.2.2)))) else (some (.done s3.2.2))) (wrap .i64 ((wrap .i64 y3) - 32),0,s2.2)) fun o3=>some (.next (wrap .i64 (s2.1+1),o3))) else (some (.done s2.2))) (0,l2)) fun o2=>some o2) else (bnd (zI (τ:=List Int) (fun (s4:List Int × Int)=>bif decide (s4.2<(CQ.Value.size:Int)) then (bnd (DU CQ.Value s4.2) fun y4=>bnd (app 1 s4.1 [y4]) fun l4=>some (.next (l4,wrap .i64 (s4.2+1)))) else (some (.done s4.1))) ([],0)) fun o4=>some o4))
theorem zJv [AO] {CQ r} (h:iW CQ=some r):
    AX Tryz.prog 78 [.agg #[.int .i64 CQ.Kind, .string CQ.Value]] [] (fun v F=>∃ A1 c1,v= .slice A1 r.length c1∧F= [.res (zD AP 5 A1 c1 r)]):=by
 refine AX.intro Tryz.func78 O O O fun w R=>?_;refine .seq<|.region<|.box O O fun g1=>.b [1] O<|.a 1 O<|.lb 1 0 O<|.b [1,3] O<|.ae O<|.seq<|.a 1 O<|.lb 0 0 O<|.b [1,3,4,15] O<|.block<|.ab [1,3,4,15,28] O<|.cb h O (fun h=>?_) (fun h=>?_)
 ·refine .ab [1,3,4,5] O<|.AQ (fun _ w=>w.EH AP 5)<|.bd h fun o1 hl1 h=>.DV<|.DZ 2 (fun (e2:Option Addr × Nat)=>[.s 4 (.slice e2.1 o1.length e2.2)]) (fun e2=>[.res (zD AP 5 e2.1 e2.2 o1)]) O O ?_ ?_
  ·refine .block<|.BH hl1 1 (fun (s1:List Int × Int) (e1:Option Addr × Nat)=>[1,3, .s 4 (.slice e1.1 s1.1.length e1.2), .s 5 (.int .i64 s1.2)]) (fun s1 e1=>[.res (zD AP 5 e1.1 e1.2 s1.1)]) O O (none,0) (zb O) (fun _ w=>w) ?_;rintro s1 ⟨A1,c1⟩ st1 hm1 hd1 h1;refine .seq<|.ab [1,3,4,5,33] O<|.cb h1 O (fun h1=>?_) (fun h1=>?_)
   ·refine .sk<|.pr [1,3,4,5] O<|.seq<|.block<|.BG (iN [0,4,9,12,17,22,24,28,33,36,40,45,50,52,56,63,67,68] .nil) _ mixed (by kernel_rfl) (zl [] 1 O)<|.yn 2 O<|.yx 1 1 O<|.yn 1 O<|.bd h1 fun y1 hy1 h1=>.DR (Rd.DU hy1 O O O O) O<|.bd h1 fun r1 hr1 h1=>.YC (fun _ h=>h) (eW hr1) Vo O O O O trivial<|.yn 2 O<|.yx 1 1 O<|.yn 2 O<|.bd h1 fun y2 hy2 h1=>.DR (Rd.DU hy2 O O O O) O<|.bd h1 fun r2 hr2 h1=>.YC (fun _ h=>h) (eW hr2) Vo O O O O trivial<|.yn 2 O<|.BZ<|.bS O fun g2=>.xk (zl [] 2 O)<|.BZ<|.bd h1 fun l1 hl1 h1=>.app (E:=AP) hl1 O O O (.s .z) O O O O O O O O (oP (.head _) O O) O O fun A3 c3=>.xk (zl [] 2 O)<|.yn 1 O<|.BX<|.BF<|.AB<|.pf [1,3,4,5] [0] 1 O O<|.region ?_;cases h1;exact .be O<|.ag (A3,c3) hm1 O zw
   refine .xq O ?_;cases h1;cases hd1 _ rfl
   exact .AB<|.hE (A1,c1) O (zl [0] 1 O)
  rintro ⟨A2,c2⟩;refine .BF<|.AB<|.ab [2] O ?_;cases h;exact .rv O O ⟨A2,c2,O,O⟩ zw
 refine .ab [1,3,4,53] O<|.cb h O (fun h=>?_) (fun h=>?_)
 ·refine .a 1 O<|.bd h fun r3 hr3 h=>.cv [] (cH hr3) zVs O<|.bd h fun l2 hl2 h=>.RU (E:=AP) 0 hl2 O O O O O O O O O O fun g3=>.b [1,3,4] O<|.ae O<|.bd h fun o2 hl2 h=>.DV<|.DZ 2 (fun (e4:Option Addr × Nat)=>[.s 4 (.slice e4.1 o2.length e4.2)]) (fun e4=>[.res (zD AP 5 e4.1 e4.2 o2)]) O O ?_ ?_
  ·refine .block<|.BH hl2 1 (fun (s2:Int × List Int) (e3:Option Addr × Nat)=>[1,3, .s 4 (.slice e3.1 s2.2.length e3.2), .s 6 (.int .i64 s2.1)]) (fun s2 e3=>[.res (zD AP 5 e3.1 e3.2 s2.2)]) O O ((some ⟨g3,0,none⟩),(Int.toNat r3)) (zb O) (fun _ w=>w) ?_;rintro s2 ⟨A4,c4⟩ st2 hm2 hd2 h2;refine .seq<|.ab [1,3,4,6,60] O<|.cb h2 O (fun h2=>?_) (fun h2=>?_)
   ·refine .sk<|.pr [1,3,4,6] O<|.seq<|.block<|.a 1 O<|.lb 1 1 O<|.p O O<|.bd h2 fun y3 hy3 h2=>.DU O O O O O hy3<|.b [1,3,4,6,7] O<|.ae O<|.bd h2 fun o3 hl3 h2=>.DV<|.DZ 1 (fun (e6:Option Addr × Nat)=>[1,3, .s 4 (.slice e6.1 o3.length e6.2),6]) (fun e6=>[.res (zD AP 5 e6.1 e6.2 o3)]) O O ?_ ?_
    ·refine .block<|.BH hl3 1 (fun (s3:Int × Int × List Int) (e5:Option Addr × Nat)=>[1,3, .s 4 (.slice e5.1 s3.2.2.length e5.2),6, .s 7 (.int .i64 s3.1), .s 8 (.int .i64 s3.2.1)]) (fun s3 e5=>[.res (zD AP 5 e5.1 e5.2 s3.2.2)]) O O (A4,c4) (zb O) (fun _ w=>w) ?_;rintro s3 ⟨A6,c6⟩ Ii QD hd3 h3;refine .seq<|.ab [1,3,4,6,7,8,70] O<|.cb h3 O (fun h3=>?_) (fun h3=>?_)
     ·refine .sk<|.pr [1,3,4,6,7,8] O<|.seq<|.block<|.seq<|.ab [1,3,4,6,7,8,75] O<|.cb h3 O (fun h3=>?_) (fun h3=>?_)
      ·refine .ab [1,3,4,6,7,8,9] O<|.region<|.n 3 O<|.bd h3 fun x1 hx1 h3=>.II hx1 0 O fun g4 hA=>?_;subst hA;refine .EZ 0 hx1 O O (.head _) O O<|.n 3 O<|.bd h3 fun q1 hq1 h3=>.shl O O O hq1<|.p O O<|.II hx1 0 O fun g5 hA=>?_;cases hA;refine .bd h3 fun l3 hl3 h3=>.IY 0 hx1 hl3 O O .z O O O O O ?_;refine .ss 4 (zF hl3) ?_;refine .ss 80 (zF hl3)<|.b [1,3,4,6,7,8] O<|.region<|.n 3 O<|.done<|.BF<|.AB<|.pr [1,3,4,6,7,8] O<|.region ?_;cases h3;exact .be O<|.ag ((some ⟨g4,0,none⟩),c6) QD O zw
      refine .sk<|.pr [1,3,4,6,7,8] O<|.region<|.n 3 O<|.done<|.BF<|.AB<|.pr [1,3,4,6,7,8] O<|.region ?_;cases h3;exact .be O<|.ag (A6,c6) QD O zw
     refine .xq O ?_;cases h3;cases hd3 _ rfl
     exact .AB<|.hE (A6,c6) O zw
    rintro ⟨A7,c7⟩;refine .BF<|.AB<|.region ?_;cases h2;exact .be O<|.ag (A7,c7) hm2 O zw
   refine .xq O ?_;cases h2;cases hd2 _ rfl
   exact .AB<|.hE (A4,c4) O (zl [0] 1 O)
  rintro ⟨A5,c5⟩;refine .BF<|.AB<|.ab [2] O ?_;cases h;exact .rv O O ⟨A5,c5,O,O⟩ zw
 refine .ab [1,3,4,10] O<|.AQ (fun _ w=>w.EH AP 5)<|.bd h fun o4 hl4 h=>.DV<|.DZ 2 (fun (e8:Option Addr × Nat)=>[.s 4 (.slice e8.1 o4.length e8.2)]) (fun e8=>[.res (zD AP 5 e8.1 e8.2 o4)]) O O ?_ ?_
 ·refine .block<|.BH hl4 1 (fun (s4:List Int × Int) (e7:Option Addr × Nat)=>[1,3, .s 4 (.slice e7.1 s4.1.length e7.2), .s 10 (.int .i64 s4.2)]) (fun s4 e7=>[.res (zD AP 5 e7.1 e7.2 s4.1)]) O O (none,0) (zb O) (fun _ w=>w) ?_;rintro s4 ⟨A8,c8⟩ Sj hm4 hd4 h4;refine .seq<|.ab [1,3,4,10,18] O<|.cb h4 O (fun h4=>?_) (fun h4=>?_)
  ·refine .sk<|.pr [1,3,4,10] O<|.seq<|.block<|.region<|.n 2 O<|.lb 1 1 O<|.p O O<|.bd h4 fun y4 hy4 h4=>.DU O O O O O hy4<|.bS O fun g6=>.bd h4 fun l4 hl4 h4=>.app (E:=AP) hl4 O O O (.s .z) O O O O O O O O (oP (.head _) O O) O O fun MR c10=>.p O O<|.done<|.BF<|.AB<|.pf [1,3,4,10] [0] 1 O O<|.region ?_;cases h4;exact .be O<|.ag (MR,c10) hm4 O zw
  refine .xq O ?_;cases h4;cases hd4 _ rfl
  exact .AB<|.hE (A8,c8) O (zl [0] 1 O)
 rintro ⟨A9,c9⟩;refine .BF<|.AB<|.ab [2] O ?_;cases h;exact .rv O O ⟨A9,c9,O,O⟩ zw
theorem zYE:BV Tryz.prog 32:=en Tryz.func32 (by kernel_rfl)
def iU [AO] (text:ByteArray):Option (zQ × Int):=
 bnd (zI (τ:=Int × Int × ByteArray) (fun (s1:Int × Int × Int × ByteArray)=>bif decide (s1.2.1≤3) then (bnd (mA (⟨s1.2.1,text⟩:zQ)) fun r1=>bif !r1 then (some (.next (s1.1,wrap .i64 (s1.2.1+1),s1.2.2.1,s1.2.2.2))) else (bnd (iW (⟨s1.2.1,text⟩:zQ)) fun r2=>bnd ((bif decide (s1.1<0) then (some true) else (some (decide ((r2.length:Int)<s1.1))):Option Bool)) fun o2=>bif o2 then (some (.next ((r2.length:Int),wrap .i64 (s1.2.1+1),s1.2.1,text))) else (some (.next (s1.1,wrap .i64 (s1.2.1+1),s1.2.2.1,s1.2.2.2))))) else (some (.done (s1.1,s1.2.2.1,s1.2.2.2)))) ((-1),1,0,⟨#[]⟩)) fun o1=>bif decide (o1.1<0) then (some ((⟨0,⟨#[]⟩⟩:zQ),6)) else (some ((⟨o1.2.1,o1.2.2⟩:zQ),0))
theorem zKy [AO] {text r} (h:iU text=some r):
    AX Tryz.prog 32 [.string text] [] (Val (.tuple #[.agg #[.int .i64 r.1.Kind, .string r.1.Value], .int .i64 r.2])):=by
 refine AX.intro Tryz.func32 O O O fun w R=>?_;refine .seq<|.region<|.alloc O O fun g1=>.b [0,2] O<|.a 1 O<|.alloc O O fun g2=>.sb 0 0 O<|.b [0,2,4] O<|.ae O<|.seq<|.ae O<|.bd h fun o1 hl1 h=>.cu 1 [2,4, .s 5 (.int .i64 o1.1)] [.res (Box g2 105 [.int .i64 o1.2.1, .string o1.2.2])] O O ?_ ?_
 ·refine .block<|.BH hl1 1 (fun (s1:Int × Int × Int × ByteArray) (e1:Unit)=>[0,2,4, .s 5 (.int .i64 s1.1), .s 6 (.int .i64 s1.2.1)]) (fun s1 e1=>[.res (Box g2 105 [.int .i64 s1.2.2.1, .string s1.2.2.2])]) O O () (zb O) (fun _ w=>w) ?_;rintro s1 e1 st1 hm1 hd1 h1;refine .seq<|.ab [0,2,4,5,6,11] O<|.cb h1 O (fun h1=>?_) (fun h1=>?_)
  ·refine .sk<|.pr [0,2,4,5,6] O<|.seq<|.block<|.a 3 O<|.alloc O O fun g3=>.sb 0 0 O<|.b [0,2,4,5,6,7] O<|.seq<|.seq<|.region<|.lb 0 0 O<|.bd h1 fun r1 hr1 h1=>.cv [] (zBA hr1) zVQ O<|.b [0,2,4,5,6,7,19] O<|.cb h1 O (fun h1=>?_) (fun h1=>?_)
   ·refine .xq O<|.AB<|.pf [0,2,4,5,6] [] 1 O O<|.region ?_;cases h1;exact .be O<|.ag () hm1 O zw
   refine .sk<|.pr [0,2,4,5,6,7] O<|.seq<|.region<|.lb 0 0 O<|.bd h1 fun r2 hr2 h1=>.cr 4 [] [] 0 (zJv hr2) zYz O fun A1 c1=>.b [0,2,4,5,6,7,8] O<|.seq<|.bd h1 fun o2 hj1 h1=>.cu 0 [0,2,4,5,6,7,8, .s 29 (.bool o2)] [] O O ?_ ?_
   ·refine .region<|.n 3 O<|.gs 24 hj1 O (fun hj1=>?_) (fun hj1=>?_)
    ·cases hj1;exact .be O<|.hU O zw
    cases hj1;exact .be O<|.hU O zw
   refine .cb h1 O (fun h1=>?_) (fun h1=>?_)
   ·refine .seq<|.region<|.lb 0 1 O<|.sb 0 2 O<|.bf [0,2,4,6,8] [0,0] 1 O O<|.region<|.n 3 O<|.done<|.BF<|.AB<|.pf [0,2,4,5,6] [0] 1 O O<|.region ?_;cases h1;exact .be O<|.ag () hm1 O zw
   refine .skip<|.BF<|.AB<|.pf [0,2,4,5,6] [] 2 O O<|.region ?_;cases h1;exact .be O<|.ag () hm1 O zw
  refine .xq O ?_;cases h1;cases hd1 _ rfl
  exact .AB<|.hU O zw
 refine .seq<|.ab [2,4,34] O<|.cb h O (fun h=>?_) (fun h=>?_)
 ·refine .a 1 O<|.sb 0 1 O<|.bf [2,3] [0] 1 O O ?_;cases h;exact .rt O Tryz.results32 (.cell O (.head _) O (.tmp O .nil)) O ⟨O,O⟩ (zl [] 1 O)
 refine .sk<|.pr [2,4] O<|.seq<|.region<|.lb 0 0 O<|.sb 0 1 O<|.bf [2,3] [0] 1 O O ?_;cases h;exact .rt O Tryz.results32 (.cell O (.head _) O (.tmp O .nil)) O ⟨O,O⟩ (zl [] 1 O)
theorem zZg:BV Tryz.prog 9:=en Tryz.func9 (by kernel_rfl)
def tM [AO] (MF:ByteArray) (code:Int):Option wA:=
 bnd (iU MF) fun r1=>bnd ((bif (r1.2 != 0) then (some (0,MF)) else (some (r1.1.Kind,r1.1.Value)):Option (Int × ByteArray))) fun o1=>bnd (mA (⟨o1.1,o1.2⟩:zQ)) fun r2=>bif !r2 then (some (⟨(⟨true,code,0, [(⟨3,⟨#[]⟩⟩:zQ),(⟨0,⟨#[]⟩⟩:zQ)]⟩:zW),(⟨false,0,0, []⟩:zW),(⟨false,0,0, []⟩:zW), []⟩:wA)) else (some (⟨(⟨true,code,0, [(⟨3,⟨#[]⟩⟩:zQ),(⟨o1.1,o1.2⟩:zQ)]⟩:zW),(⟨false,0,0, []⟩:zW),(⟨false,0,0, []⟩:zW), []⟩:wA))
theorem zCA [AO] {MF code r} (h:tM MF code=some r):
    AX Tryz.prog 9 [.string MF, .int .u8 code] [] (fun v F=>∃ A1 c1 A2 c2 A3 c3 A4 c4,v= .agg (jF r A1 c1 A2 c2 A3 c3 A4 c4).toArray∧F= [.ro (BP zP A1 c1 r.CG.Fields), .ro (BP zP A2 c2 r.Board.Fields), .ro (BP zP A3 c3 r.Product.Fields), .ro (BP AP A4 c4 r.Multi)]):=by
 refine AX.intro Tryz.func9 O O O fun w R=>?_;refine .seq<|.region<|.alloc O O fun g1=>.done<|.AB<|.a 1 O<|.bd h fun r1 hr1 h=>.cv [] (zKy hr1) zYE O<|.n 3 O<|.alloc O O fun g2=>.sb 0 0 O<|.b [0,1,4,5,6] O<|.seq<|.bd h fun o1 hj1 h=>.cu 1 [1,4,5] [.res (Box g2 105 [.int .i64 o1.1, .string o1.2])] O O ?_ ?_
 ·refine .ab [0,1,4,5,13] O<|.cb hj1 O (fun hj1=>?_) (fun hj1=>?_)
  ·refine .region<|.n 2 O<|.sb 0 0 O<|.done ?_;cases hj1;exact .AB<|.hU O zw
  cases hj1;exact .sk<|.hU O zw
 refine .seq<|.seq<|.region<|.lb 0 0 O<|.bd h fun r2 hr2 h=>.cv [] (zBA hr2) zVQ O<|.b [1,4,5,18] O<|.cb h O (fun h=>?_) (fun h=>?_)
 ·refine .region<|.p O O<|.sb 0 0 O<|.b [1,4,5] O<|.a 2 O<|.lb 0 0 O<|.bS O fun g3=>.n 2 O<|.sb 0 2 O<|.bf [4] [0,0] 1 O O<|.AQ (fun _ w=>(w.sl [1] 0 O).IB (E:=zP) (e:=105) [(⟨3,⟨#[]⟩⟩:zQ),(⟨0,⟨#[]⟩⟩:zQ)] O O)<|.AQ (fun _ w=>w.CO)<|.AQ (fun _ w=>w.CS (DC zP))<|.AQ (fun _ w=>w.CS (DC zP))<|.AQ (fun _ w=>w.CS (DC AP)) ?_;cases h;exact .rt O Tryz.results9 (.cell O (.tail _ (.tail _ (.tail _ (.tail _ (.head _))))) O .nil) O ⟨(some ⟨g3,0,none⟩),([(⟨3,⟨#[]⟩⟩:zQ),(⟨0,⟨#[]⟩⟩:zQ)]:List zQ).length,none,0,none,0,none,0,O,O⟩ (zk 4 5 [3,1,1,0] [] 0 O)
 refine .sk<|.pr [1,4,5] O<|.a 2 O<|.lb 0 0 O<|.bS O fun g4=>.n 2 O<|.sb 0 2 O<|.bf [4] [0,0] 1 O O<|.AQ (fun _ w=>(w.sl [1] 0 O).IB (E:=zP) (e:=105) [(⟨3,⟨#[]⟩⟩:zQ),(⟨o1.1,o1.2⟩:zQ)] O O)<|.AQ (fun _ w=>w.CO)<|.AQ (fun _ w=>w.CS (DC zP))<|.AQ (fun _ w=>w.CS (DC zP))<|.AQ (fun _ w=>w.CS (DC AP)) ?_;cases h;exact .rt O Tryz.results9 (.cell O (.tail _ (.tail _ (.tail _ (.tail _ (.head _))))) O .nil) O ⟨(some ⟨g4,0,none⟩),([(⟨3,⟨#[]⟩⟩:zQ),(⟨o1.1,o1.2⟩:zQ)]:List zQ).length,none,0,none,0,none,0,O,O⟩ (zk 4 5 [3,1,1,0] [] 0 O)
theorem zVx:BV Tryz.prog 73:=en Tryz.func73 (by kernel_rfl)
def sM (DL:wA):Option (dB zW):=
 some (⟨DL.CG,DL.Board,DL.Product⟩:(dB zW))
theorem dW {DL A1 c1 A2 c2 A3 c3 A4 c4 r} (h:sM DL=some r):
    AX Tryz.prog 73 [.agg (jF DL A1 c1 A2 c2 A3 c3 A4 c4).toArray] [.ro (BP zP A1 c1 DL.CG.Fields), .ro (BP zP A2 c2 DL.Board.Fields), .ro (BP zP A3 c3 DL.Product.Fields), .ro (BP AP A4 c4 DL.Multi)] (fun v F=>∃ A5 c5 A6 c6 A7 c7,v= .agg (zGE r A5 c5 A6 c6 A7 c7).toArray∧F= [.ro (BP zP A5 c5 r.e0.Fields), .ro (BP zP A6 c6 r.e1.Fields), .ro (BP zP A7 c7 r.e2.Fields)]):=by
 unfold sM at h
 refine AX.intro Tryz.func73 O O O fun w R=>?_;refine .seq<|.region<|.box O O fun g1=>.alloc O O fun g2=>.b [1,2] O<|.a 1 O<|.lb 0 1 O<|.p O O<|.lb 4 1 O<|.p O O<|.lb 8 1 O<|.p O O<|.sb 0 0 O<|.bf [2] [0,1,1,1] 2 O O ?_;cases h;exact .rt O Tryz.results73 (.cell O (.head _) O .nil) O ⟨A1,c1,A2,c2,A3,c3,O,O⟩ (zk 3 4 [1,2,3] [] 0 O)
theorem zWW:BV Tryz.prog 173:=en Tryz.func173 (by kernel_rfl)
def mZ [AO] (AL:ByteArray) (IC:Int):Option ByteArray:=
 bnd (zI (τ:=ByteArray) (fun (s1:ByteArray)=>bnd ((bif decide ((s1.size:Int)>0) then (bnd (DU s1 (wrap .i64 ((s1.size:Int) - 1))) fun y1=>some (y1==IC)) else (some false):Option Bool)) fun o2=>bif o2 then (bnd (FY s1 0 (wrap .i64 ((s1.size:Int) - 1))) fun t1=>some (.next t1)) else (some (.done s1))) AL) fun o1=>some o1
theorem dJ [AO] {AL IC r} (h:mZ AL IC=some r):
    AX Tryz.prog 173 [.string AL, .int .u8 IC] [] (Val (.string r)):=by
 refine AX.intro Tryz.func173 O O O fun w R=>?_;refine .ab [0,1] O<|.seq<|.bd h fun o1 hl1 h=>.cu 0 [.s 0 (.string o1)] [] O O ?_ ?_
 ·refine .block<|.BH hl1 0 (fun (s1:ByteArray) (e1:Unit)=>[.s 0 (.string s1),1]) (fun s1 e1=>[]) O O () (zb O) (fun _ w=>w) ?_;rintro s1 e1 st1 hm1 hd1 h1;refine .seq<|.seq<|.bd h1 fun o2 hj1 h1=>.cu 0 [0,1, .s 16 (.bool o2)] [] O O ?_ ?_
  ·refine .region<|.n 4 O<|.gs 8 hj1 O (fun hj1=>?_) (fun hj1=>?_)
   ·refine .n 4 O<|.BR O O<|.bd hj1 fun y1 hy1 hj1=>.DU O O O O O hy1 ?_;cases hj1;exact .be O<|.hU O zw
   cases hj1;exact .be O<|.hU O zw
  refine .cb h1 O (fun h1=>?_) (fun h1=>?_)
  ·refine .sk<|.pr [0,1] O<|.block<|.region<|.n 4 O<|.bd h1 fun t1 ht1 h1=>.FY O O O O O O ht1<|.p O O<|.done<|.BF ?_;cases h1;exact .AB<|.ag () hm1 O zw
  refine .xq O ?_;cases h1;cases hd1 _ rfl
  exact .AB<|.hU O zw
 refine .ab [4] O ?_;cases h;exact .rv O O ⟨O,O⟩ zw
theorem zWb:BV Tryz.prog 172:=en Tryz.func172 (by kernel_rfl)
def kF [AO] (AL:ByteArray) (IC:Int):Option ByteArray:=
 bnd (zI (τ:=ByteArray) (fun (s1:ByteArray)=>bnd ((bif decide ((s1.size:Int)>0) then (bnd (DU s1 0) fun y1=>some (y1==IC)) else (some false):Option Bool)) fun o2=>bif o2 then (bnd (FY s1 1 (s1.size:Int)) fun t1=>some (.next t1)) else (some (.done s1))) AL) fun o1=>some o1
theorem bK [AO] {AL IC r} (h:kF AL IC=some r):
    AX Tryz.prog 172 [.string AL, .int .u8 IC] [] (Val (.string r)):=by
 refine AX.intro Tryz.func172 O O O fun w R=>?_;refine .ab [0,1] O<|.seq<|.bd h fun o1 hl1 h=>.cu 0 [.s 0 (.string o1)] [] O O ?_ ?_
 ·refine .block<|.BH hl1 0 (fun (s1:ByteArray) (e1:Unit)=>[.s 0 (.string s1),1]) (fun s1 e1=>[]) O O () (zb O) (fun _ w=>w) ?_;rintro s1 e1 st1 hm1 hd1 h1;refine .seq<|.seq<|.bd h1 fun o2 hj1 h1=>.cu 0 [0,1, .s 13 (.bool o2)] [] O O ?_ ?_
  ·refine .region<|.n 4 O<|.gs 8 hj1 O (fun hj1=>?_) (fun hj1=>?_)
   ·refine .n 1 O<|.BR O O<|.bd hj1 fun y1 hy1 hj1=>.DU O O O O O hy1 ?_;cases hj1;exact .be O<|.hU O zw
   cases hj1;exact .be O<|.hU O zw
  refine .cb h1 O (fun h1=>?_) (fun h1=>?_)
  ·refine .sk<|.pr [0,1] O<|.block<|.region<|.p O O<|.bd h1 fun t1 ht1 h1=>.FY O O O O O O ht1<|.p O O<|.done<|.BF ?_;cases h1;exact .AB<|.ag () hm1 O zw
  refine .xq O ?_;cases h1;cases hd1 _ rfl
  exact .AB<|.hU O zw
 refine .ab [4] O ?_;cases h;exact .rv O O ⟨O,O⟩ zw
theorem zXj:BV Tryz.prog 174:=en Tryz.func174 (by kernel_rfl)
def sD [AO] (chars:ByteArray):Option ((List Bool) × Bool):=
 bnd (zI (τ:=((List Bool) × Bool) ⊕ List Bool) (fun (s1:List Bool × Int)=>bif decide (s1.2<(chars.size:Int)) then (bnd (DU chars s1.2) fun y1=>bif decide (y1≥128) then (bnd (yV 256 s1.1) fun l1=>bnd (yV 256 l1) fun l2=>bnd (yV 256 l1) fun l3=>some (.done (.inl (l3,false)))) else (bnd (yV 256 s1.1) fun l4=>bnd (AU s1.1 y1) fun x1=>bnd (xJ s1.1 y1 true) fun l5=>some (.next (l5,wrap .i64 (s1.2+1))))) else (some (.done (.inr s1.1)))) (List.replicate 256 false,0)) fun o1=>wN o1 fun o2=>bnd (yV 256 o2) fun l6=>bnd (yV 256 l6) fun l7=>bnd (yV 256 l6) fun l8=>some (l8,true)
theorem aP [AO] {chars r} (h:sD chars=some r):
    AX Tryz.prog 174 [.string chars] [] (Val (.tuple #[(mr kN r.1), .bool r.2])):=by
 refine AX.intro Tryz.func174 O O O fun w R=>?_;refine .seq<|.region<|.UD (n:=256) kN false O O (by kernel_rfl) O fun g1=>.b [0,2] O<|.seq<|.ae O<|.bd h fun o1 hl1 h=>.EJ 1 (fun (o2:List Bool) (e2:Unit)=>[2]) (fun o2 e2=>[.res (zD kN 287 (some ⟨g1,0,none⟩) 256 o2)]) O O (fun o2=>o1= .inr o2) ?_ ?_
 ·refine .block<|.BH hl1 1 (fun (s1:List Bool × Int) (e1:Unit)=>[0,2, .s 4 (.int .i64 s1.2)]) (fun s1 e1=>[.res (zD kN 287 (some ⟨g1,0,none⟩) 256 s1.1)]) O O () (zb O) (fun _ w=>w) ?_;rintro s1 e1 st1 hm1 hd1 h1;refine .seq<|.ab [0,2,4,9] O<|.cb h1 O (fun h1=>?_) (fun h1=>?_)
  ·refine .sk<|.pr [0,2,4] O<|.seq<|.block<|.a 2 O<|.bd h1 fun y1 hy1 h1=>.DU O O O O O hy1<|.b [0,2,4,5] O<|.seq<|.ab [0,2,4,5,16] O<|.cb h1 O (fun h1=>?_) (fun h1=>?_)
   ·refine .seq<|.region<|.bd h1 fun l1 hl1 h1=>.Y4 kN hl1 O O O O O O O .z<|.bd h1 fun l2 hl2 h1=>.bd h1 fun l3 hl3 h1=>.stA kN hl2 hl3 O O O O O O .z<|.b [2,3] O<|.AQ (fun _ w=>Sat.NR (aR hl3) w O) ?_;cases h1;cases hd1 _ rfl
    have h:some _=some _:=h;cases h;exact .rt O Tryz.results174 (.cell O (.head _) (Qu kN l3 O O O (aR hl3)) (.tmp O .nil)) O ⟨O,O⟩ (zl [] 1 O)
   refine .sk<|.pr [0,2,4,5] O<|.region<|.p O O<|.bd h1 fun l4 hl4 h1=>.bd h1 fun x1 hx1 h1=>.Gw (sz:=1) hx1 O O O (Qs hl4) O O O O<|.bd h1 fun l5 hl5 h1=>.IY 0 hx1 hl5 O O .z O O O O O<|.done<|.BF<|.AB<|.pr [0,2,4] O<|.region ?_;cases h1;exact .be O<|.ag () hm1 O zw
  refine .xq O ?_;cases h1;cases hd1 _ rfl
  exact .AB<|.DN s1.1 () O (zb O) zw
 rintro o2 e2 ho;subst ho;have h:=IV h;refine .seq<|.region<|.bd h fun l6 MI h=>.Y4 kN MI O O O O O O O .z<|.bd h fun l7 SE h=>.bd h fun l8 QE h=>.stA kN SE QE O O O O O O .z<|.b [2,3] O<|.AQ (fun _ w=>Sat.NR (aR QE) w O) ?_;cases h;exact .rt O Tryz.results174 (.cell O (.head _) (Qu kN l8 O O O (aR QE)) (.tmp O .nil)) O ⟨O,O⟩ (zl [] 1 O)
theorem zQv:BV Tryz.prog 199:=en Tryz.func199 (by kernel_rfl)
def vC (NH:(List Bool)) (IC:Int):Option Bool:=
 bnd (yV 256 NH) fun l1=>bnd (AU NH IC) fun x1=>some x1
theorem oF {NH IC BN r} (h:vC NH IC=some r):
    AX Tryz.prog 199 [.pointer (some ⟨BN,0,none⟩), .int .u8 IC] [.res (zD kN 287 (some ⟨BN,0,none⟩) 256 NH)] (fun v F=>v= .bool r∧F= [.res (zD kN 287 (some ⟨BN,0,none⟩) 256 NH)]):=by
 refine AX.intro Tryz.func199 O O O fun w R=>?_;refine .ab [0,1] O<|.a 3 O<|.bd h fun l1 hl1 h=>.bd h fun x1 hx1 h=>.Gw (sz:=1) hx1 O O O (Qs hl1) O O O O<|.EZ 0 hx1 O O (.head _) O O<|.b [4] O ?_;cases h;exact .rv O O ⟨O,O⟩ zw
theorem zVV:BV Tryz.prog 176:=en Tryz.func176 (by kernel_rfl)
def tB [AO] (AL:ByteArray) (JP:(List Bool)):Option ByteArray:=
 bnd (zI (τ:=ByteArray) (fun (s1:ByteArray)=>bif decide ((s1.size:Int)>0) then (bnd (DU s1 (wrap .i64 ((s1.size:Int) - 1))) fun y1=>bnd (vC JP y1) fun r1=>bif !r1 then (some (.done s1)) else (bnd (FY s1 0 (wrap .i64 ((s1.size:Int) - 1))) fun t1=>some (.next t1))) else (some (.done s1))) AL) fun o1=>some o1
theorem dF [AO] {AL JP BN r} (h:tB AL JP=some r):
    AX Tryz.prog 176 [.string AL, .pointer (some ⟨BN,0,none⟩)] [.res (zD kN 287 (some ⟨BN,0,none⟩) 256 JP)] (fun v F=>v= .string r∧F= [.res (zD kN 287 (some ⟨BN,0,none⟩) 256 JP)]):=by
 refine AX.intro Tryz.func176 O O O fun w R=>?_;refine .ab [0,1] O<|.seq<|.bd h fun o1 hl1 h=>.cu 0 [.s 0 (.string o1)] [] O O ?_ ?_
 ·refine .block<|.BH hl1 0 (fun (s1:ByteArray) (e1:Unit)=>[.s 0 (.string s1),1]) (fun s1 e1=>[]) O O () (zb O) (fun _ w=>w) ?_;rintro s1 e1 st1 hm1 hd1 h1;refine .seq<|.ab [0,1,7] O<|.cb h1 O (fun h1=>?_) (fun h1=>?_)
  ·refine .sk<|.pr [0,1] O<|.block<|.seq<|.a 5 O<|.bd h1 fun y1 hy1 h1=>.DU O O O O O hy1<|.bd h1 fun r1 hr1 h1=>.cq 1 [] [] 0 (oF hr1) zQv O<|.b [0,1,15] O<|.cb h1 O (fun h1=>?_) (fun h1=>?_)
   ·refine .xq O ?_;cases h1;cases hd1 _ rfl
    exact .AB<|.hU O zw
   refine .sk<|.pr [0,1] O<|.region<|.n 4 O<|.bd h1 fun t1 ht1 h1=>.FY O O O O O O ht1<|.p O O<|.done<|.BF ?_;cases h1;exact .AB<|.ag () hm1 O zw
  refine .xq O ?_;cases h1;cases hd1 _ rfl
  exact .AB<|.hU O zw
 refine .ab [4] O ?_;cases h;exact .rv O O ⟨O,O⟩ zw
theorem zXz:BV Tryz.prog 175:=en Tryz.func175 (by kernel_rfl)
def tH [AO] (AL:ByteArray) (JP:(List Bool)):Option ByteArray:=
 bnd (zI (τ:=ByteArray) (fun (s1:ByteArray)=>bif decide ((s1.size:Int)>0) then (bnd (DU s1 0) fun y1=>bnd (vC JP y1) fun r1=>bif !r1 then (some (.done s1)) else (bnd (FY s1 1 (s1.size:Int)) fun t1=>some (.next t1))) else (some (.done s1))) AL) fun o1=>some o1
theorem bD [AO] {AL JP BN r} (h:tH AL JP=some r):
    AX Tryz.prog 175 [.string AL, .pointer (some ⟨BN,0,none⟩)] [.res (zD kN 287 (some ⟨BN,0,none⟩) 256 JP)] (fun v F=>v= .string r∧F= [.res (zD kN 287 (some ⟨BN,0,none⟩) 256 JP)]):=by
 refine AX.intro Tryz.func175 O O O fun w R=>?_;refine .ab [0,1] O<|.seq<|.bd h fun o1 hl1 h=>.cu 0 [.s 0 (.string o1)] [] O O ?_ ?_
 ·refine .block<|.BH hl1 0 (fun (s1:ByteArray) (e1:Unit)=>[.s 0 (.string s1),1]) (fun s1 e1=>[]) O O () (zb O) (fun _ w=>w) ?_;rintro s1 e1 st1 hm1 hd1 h1;refine .seq<|.ab [0,1,7] O<|.cb h1 O (fun h1=>?_) (fun h1=>?_)
  ·refine .sk<|.pr [0,1] O<|.block<|.seq<|.a 2 O<|.bd h1 fun y1 hy1 h1=>.DU O O O O O hy1<|.bd h1 fun r1 hr1 h1=>.cq 1 [] [] 0 (oF hr1) zQv O<|.b [0,1,12] O<|.cb h1 O (fun h1=>?_) (fun h1=>?_)
   ·refine .xq O ?_;cases h1;cases hd1 _ rfl
    exact .AB<|.hU O zw
   refine .sk<|.pr [0,1] O<|.region<|.p O O<|.bd h1 fun t1 ht1 h1=>.FY O O O O O O ht1<|.p O O<|.done<|.BF ?_;cases h1;exact .AB<|.ag () hm1 O zw
  refine .xq O ?_;cases h1;cases hd1 _ rfl
  exact .AB<|.hU O zw
 refine .ab [4] O ?_;cases h;exact .rv O O ⟨O,O⟩ zw
theorem zWC:BV Tryz.prog 152:=en Tryz.func152 (by kernel_rfl)
def lT [AO] (AL:ByteArray) (cutset:ByteArray):Option ByteArray:=
 bnd ((bif (AL.toList==((⟨#[]⟩):ByteArray).toList) then (some true) else (some (cutset.toList==((⟨#[]⟩):ByteArray).toList)):Option Bool)) fun o1=>bif o1 then (some AL) else (bnd ((bif ((cutset.size:Int)==1) then (bnd (DU cutset 0) fun y1=>some (decide (y1<128))) else (some false):Option Bool)) fun o2=>bif o2 then (bnd (DU cutset 0) fun y2=>bnd (mZ AL y2) fun r1=>bnd (kF r1 y2) fun r2=>some r2) else (bnd (sD cutset) fun r3=>bnd (yV 256 (List.replicate 256 false)) fun l1=>bnd (yV 256 r3.1) fun l2=>bif r3.2 then (bnd (tB AL l2) fun r4=>bnd (tH r4 l2) fun r5=>some r5) else (none)))
theorem zHp [AO] {AL cutset r} (h:lT AL cutset=some r):
    AX Tryz.prog 152 [.string AL, .string cutset] [] (Val (.string r)):=by
 refine AX.intro Tryz.func152 O O O fun w R=>?_;refine .ab [0,1] O<|.seq<|.seq<|.bd h fun o1 hj1 h=>.cu 0 [0,1, .s 12 (.bool o1)] [] O O ?_ ?_
 ·refine .region<|.n 3 O<|.gs 9 hj1 O (fun hj1=>?_) (fun hj1=>?_)
  ·cases hj1;exact .be O<|.hU O zw
  cases hj1;exact .be O<|.hU O zw
 refine .cb h O (fun h=>?_) (fun h=>?_)
 ·refine .ab [4] O ?_;cases h;exact .rv O O ⟨O,O⟩ zw
 refine .sk<|.pr [0,1] O<|.seq<|.seq<|.bd h fun o2 hj2 h=>.cu 0 [0,1, .s 21 (.bool o2)] [] O O ?_ ?_
 ·refine .region<|.n 4 O<|.gs 17 hj2 O (fun hj2=>?_) (fun hj2=>?_)
  ·refine .n 1 O<|.BR O O<|.bd hj2 fun y1 hy1 hj2=>.DU O O O O O hy1 ?_;cases hj2;exact .be O<|.hU O zw
  cases hj2;exact .be O<|.hU O zw
 refine .cb h O (fun h=>?_) (fun h=>?_)
 ·refine .seq<|.regionF mixed (by kernel_rfl)<|.n 2 O<|.bd h fun y2 hy2 h=>.DU O O O O O hy2<|.bd h fun r1 hr1 h=>.cv [] (dJ hr1) zWW O<|.p O O<|.DU O O O O O hy2<|.bd h fun r2 hr2 h=>.cv [] (bK hr2) zWb O<|.bq [4] O ?_;cases h;exact .rv O O ⟨O,O⟩ zw
 refine .sk<|.pr [0,1] O<|.seq<|.a 1 O<|.bd h fun r3 hr3 h=>.cv [] (aP hr3) zXj O<|.n 3 O<|.UD (n:=256) kN false O O (by kernel_rfl) O fun g1=>.bd h fun l1 hl1 h=>.bd h fun l2 hl2 h=>.stA kN hl1 hl2 O O O O O O .z<|.b [0,1,5,6] O<|.ab [0,1,5,34] O<|.cb h O (fun h=>?_) (fun h=>?_)
 ·refine .a 1 O<|.bd h fun r4 hr4 h=>.cq 1 [] [] 0 (dF hr4) zVV O<|.bd h fun r5 JF h=>.cq 1 [] [] 0 (bD JF) zXz O<|.bf [4] [] 1 O O ?_;cases h;exact .rv O O ⟨O,O⟩ zw
 refine .sk<|.pf [0,1] [] 1 O O<|.a 2 O ?_;cases h
theorem zSg:BV Tryz.prog 153:=en Tryz.func153 (by kernel_rfl)
def tN (EM:Int):Option Int:=
 some (wrap .i64 ((wrap .i64 ((wrap .i64 (6*EM))+7)).tdiv 8))
theorem eC {EM r} (h:tN EM=some r):
    AX Tryz.prog 153 [.int .i64 EM] [] (Val (.int .i64 r)):=by
 unfold tN at h
 refine AX.intro Tryz.func153 O O O fun w R=>?_;refine .ab [0] O<|.ab [2] O ?_;cases h;exact .rv O O ⟨O,O⟩ zw
theorem zWV:BV Tryz.prog 154:=en Tryz.func154 (by kernel_rfl)
def lV [AO] (AL:ByteArray):Option Bool:=
 bnd (zI (τ:=Bool ⊕ Unit) (fun (s1:Int)=>bif decide (s1<(AL.size:Int)) then (bnd ((bnd (DU AL s1) fun y1=>bif decide (y1<32) then (some true) else (some (decide (y1>95))):Option Bool)) fun o3=>bif o3 then (some (.done (.inl false))) else (some (.next (wrap .i64 (s1+1))))) else (some (.done (.inr ())))) 0) fun o1=>wN o1 fun o2=>some true
theorem zJx [AO] {AL r} (h:lV AL=some r):
    AX Tryz.prog 154 [.string AL] [] (Val (.bool r)):=by
 refine AX.intro Tryz.func154 O O O fun w R=>?_;refine .ab [0] O<|.seq<|.ab [0,5,6] O<|.bd h fun o1 hl1 h=>.EJ 0 (fun (o2:Unit) (e2:Unit)=>[]) (fun o2 e2=>[]) O O (fun o2=>o1= .inr o2) ?_ ?_
 ·refine .block<|.BH hl1 0 (fun (s1:Int) (e1:Unit)=>[0,5, .s 6 (.int .i64 s1)]) (fun s1 e1=>[]) O O () (zb O) (fun _ w=>w) ?_;rintro s1 e1 st1 hm1 hd1 h1;refine .ae O<|.seq<|.cb h1 O (fun h1=>?_) (fun h1=>?_)
  ·refine .sk<|.pr [0,5,6] O<|.seq<|.block<|.ab [0,3,5,6] O<|.seq<|.bd h1 fun o3 hj1 h1=>.cu 0 [0,5,6, .s 18 (.bool o3)] [] O O ?_ ?_
   ·refine .region<|.n 2 O<|.bd hj1 fun y1 hy1 hj1=>.DU O O O O O hy1<|.n 2 O<|.gs 13 hj1 O (fun hj1=>?_) (fun hj1=>?_)
    ·cases hj1;exact .be O<|.hU O zw
    refine .n 2 O<|.BR O O<|.DU O O O O O hy1 ?_;cases hj1;exact .be O<|.hU O zw
   refine .cb h1 O (fun h1=>?_) (fun h1=>?_)
   ·refine .ab [2] O ?_;cases h1;cases hd1 _ rfl
    have h:some _=some _:=h;cases h;exact .rv O O ⟨O,O⟩ zw
   refine .skip<|.BF<|.AB<|.pr [0,5,6] O<|.region ?_;cases h1;exact .be O<|.ag () hm1 O zw
  refine .xq O ?_;cases h1;cases hd1 _ rfl
  exact .AB<|.DN () () O trivial zw
 rintro o2 e2 ho;subst ho;have h:=IV h;refine .ae O ?_;cases h;exact .rv O O ⟨O,O⟩ zw
theorem zTb:BV Tryz.prog 114:=en Tryz.func114 (by kernel_rfl)
def oK [AO] (CQ:zQ):Option Bool:=
 bif (CQ.Kind==0) then (some (decide ((CQ.Value.size:Int)≤63))) else (bif (CQ.Kind==1) then (bnd ((bif (((CQ.Value.size:Int).tmod 2)==0) then (bif decide ((CQ.Value.size:Int)≤126) then (bnd (lT CQ.Value (⟨#[48,49,50,51,52,53,54,55,56,57,32,45,46]⟩)) fun r1=>some (r1.toList==((⟨#[]⟩):ByteArray).toList)) else (some false)) else (some false):Option Bool)) fun o1=>some o1) else (bif (CQ.Kind==2) then (bnd ((bif (((CQ.Value.size:Int).tmod 4) != 3) then (bnd (tN (CQ.Value.size:Int)) fun r2=>bif decide (r2≤63) then (bnd (lV CQ.Value) fun r3=>some r3) else (some false)) else (some false):Option Bool)) fun o2=>some o2) else (bif (CQ.Kind==3) then (bnd ((bif ((CQ.Value.size:Int) != 1) then (some (decide ((CQ.Value.size:Int)≤63))) else (some false):Option Bool)) fun o3=>some o3) else (some false))))
theorem zAI [AO] {CQ r} (h:oK CQ=some r):
    AX Tryz.prog 114 [.agg #[.int .i64 CQ.Kind, .string CQ.Value]] [] (Val (.bool r)):=by
 refine AX.intro Tryz.func114 O O O fun w R=>?_;refine .seq<|.region<|.box O O fun g1=>.b [1] O<|.a 1 O<|.lb 1 0 O<|.b [1,3] O<|.seq<|.a 1 O<|.lb 0 0 O<|.b [1,3,8] O<|.block<|.ab [1,3,8,9] O<|.cb h O (fun h=>?_) (fun h=>?_)
 ·refine .EQ [2] [] 1 O O ?_;cases h;exact .rv O O ⟨O,O⟩ zw
 refine .ab [1,3,8,13] O<|.cb h O (fun h=>?_) (fun h=>?_)
 ·refine .seq<|.bd h fun o1 hj1 h=>.cu 1 [.s 2 (.bool o1)] [] O O ?_ ?_
  ·refine .region<|.n 4 O<|.gs 18 hj1 O (fun hj1=>?_) (fun hj1=>?_)
   ·refine .n 4 O<|.gs 22 hj1 O (fun hj1=>?_) (fun hj1=>?_)
    ·refine .n 1 O<|.BR O O<|.lb 1 0 O<|.BR O O<|.bd hj1 fun r1 hr1 hj1=>.cv [] (zHp hr1) zWC O ?_;cases hj1;exact .be O<|.hU O (zl [] 1 O)
    cases hj1;exact .be O<|.hU O (zl [] 1 O)
   cases hj1;exact .be O<|.hU O (zl [] 1 O)
  cases h;exact .rv O O ⟨O,O⟩ zw
 refine .ab [1,3,8,28] O<|.cb h O (fun h=>?_) (fun h=>?_)
 ·refine .seq<|.bd h fun o2 hj2 h=>.cu 1 [.s 2 (.bool o2)] [] O O ?_ ?_
  ·refine .region<|.n 4 O<|.gs 33 hj2 O (fun hj2=>?_) (fun hj2=>?_)
   ·refine .n 1 O<|.BR O O<|.bd hj2 fun r2 hr2 hj2=>.cv [] (eC hr2) zSg O<|.n 3 O<|.gs 38 hj2 O (fun hj2=>?_) (fun hj2=>?_)
    ·refine .n 1 O<|.BR O O<|.lb 1 0 O<|.BR O O<|.bd hj2 fun r3 hr3 hj2=>.cv [] (zJx hr3) zWV O ?_;cases hj2;exact .be O<|.hU O (zl [] 1 O)
    cases hj2;exact .be O<|.hU O (zl [] 1 O)
   cases hj2;exact .be O<|.hU O (zl [] 1 O)
  cases h;exact .rv O O ⟨O,O⟩ zw
 refine .EQ [3,43] [] 1 O O<|.cb h O (fun h=>?_) (fun h=>?_)
 ·refine .seq<|.bd h fun o3 hj3 h=>.cu 0 [.s 2 (.bool o3)] [] O O ?_ ?_
  ·refine .region<|.n 3 O<|.gs 47 hj3 O (fun hj3=>?_) (fun hj3=>?_)
   ·cases hj3;exact .be O<|.hU O zw
   cases hj3;exact .be O<|.hU O zw
  cases h;exact .rv O O ⟨O,O⟩ zw
 refine .skip<|.BF<|.AB<|.pr [] O<|.ae O ?_;cases h;exact .rv O O ⟨O,O⟩ zw
theorem zWY:BV Tryz.prog 113:=en Tryz.func113 (by kernel_rfl)
def pK [AO] (CQ:zQ):Option Bool:=
 bnd (oK CQ) fun r1=>some (!r1)
theorem bR [AO] {CQ r} (h:pK CQ=some r):
    AX Tryz.prog 113 [.agg #[.int .i64 CQ.Kind, .string CQ.Value]] [] (Val (.bool r)):=by
 refine AX.intro Tryz.func113 O O O fun w R=>?_;refine .seq<|.region<|.box O O fun g1=>.b [1] O<|.seq<|.region<|.lb 0 0 O<|.bd h fun r1 hr1 h=>.cv [] (zAI hr1) zTb O<|.bf [2] [] 1 O O ?_;cases h;exact .rv O O ⟨O,O⟩ zw
theorem zRw:BV Tryz.prog 151:=en Tryz.func151 (by kernel_rfl)
def wM [AO] (AL:(List zQ)):Option Int:=
 bnd (zI (τ:=Int ⊕ Unit) (fun (s1:Int)=>bif decide (s1<(AL.length:Int)) then (bnd (AU AL s1) fun x1=>bnd (pK x1) fun r1=>bif r1 then (some (.done (.inl s1))) else (some (.next (wrap .i64 (s1+1))))) else (some (.done (.inr ())))) 0) fun o1=>wN o1 fun o2=>some (-1)
theorem qV [AO] {AL A1 c1 r} (h:wM AL=some r):
    AX Tryz.prog 151 [.slice A1 AL.length c1, .func (.func 113) #[] #[]] [.ro (BP zP A1 c1 AL)] (Val (.int .i64 r)):=by
 refine AX.intro Tryz.func151 O O O fun w R=>?_;refine .ab [0,1] O<|.seq<|.ab [0,1,7,8] O<|.bd h fun o1 hl1 h=>.EJ 1 (fun (o2:Unit) (e2:Unit)=>[]) (fun o2 e2=>[]) O O (fun o2=>o1= .inr o2) ?_ ?_
 ·refine .block<|.BH hl1 0 (fun (s1:Int) (e1:Unit)=>[0,1,7, .s 8 (.int .i64 s1)]) (fun s1 e1=>[]) O O () (zb O) (fun _ w=>w) ?_;rintro s1 e1 st1 hm1 hd1 h1;refine .ae O<|.seq<|.cb h1 O (fun h1=>?_) (fun h1=>?_)
  ·refine .sk<|.pr [0,1,7,8] O<|.seq<|.block<|.ab [0,1,5,7,8] O<|.a 3 O<|.bd h1 fun x1 hx1 h1=>.FB hx1 0 O fun b1 ED=>.ld ED 0 0 O<|.bd h1 fun r1 hr1 h1=>.cv [] (bR hr1) zWY O<|.bf [0,1,5,7,8,16] [] 1 O O<|.cb h1 O (fun h1=>?_) (fun h1=>?_)
   ·refine .EQ [4] [] 1 O O ?_;cases h1;cases hd1 _ rfl
    have h:some _=some _:=h;cases h;exact .rv O O ⟨O,O⟩ zw
   refine .skip<|.BF<|.AB<|.pr [0,1,7,8] O<|.region ?_;cases h1;exact .be O<|.ag () hm1 O zw
  refine .xq O ?_;cases h1;cases hd1 _ rfl
  exact .AB<|.DN () () O trivial (zl [] 1 O)
 rintro o2 e2 ho;subst ho;have h:=IV h;refine .ae O ?_;cases h;exact .rv O O ⟨O,O⟩ zw
theorem zRJ:BV Tryz.prog 112:=en Tryz.func112 (by kernel_rfl)
def yH [AO] (AL:(List zQ)):Option Bool:=
 bnd (wM AL) fun r1=>some (decide (r1≥0))
theorem rP [AO] {AL A1 c1 r} (h:yH AL=some r):
    AX Tryz.prog 112 [.slice A1 AL.length c1, .func (.func 113) #[] #[]] [.ro (BP zP A1 c1 AL)] (Val (.bool r)):=by
 refine AX.intro Tryz.func112 O O O fun w R=>?_;refine .ab [0,1] O<|.a 2 O<|.bd h fun r1 hr1 h=>.cv [0] (qV hr1) zRw O<|.bf [4] [] 1 O O ?_;cases h;exact .rv O O ⟨O,O⟩ zw
theorem zWz:BV Tryz.prog 155:=en Tryz.func155 (by kernel_rfl)
def uC [AO] (CQ:zQ):Option Bool:=
 bnd (oK CQ) fun r1=>some (!r1)
theorem zAn [AO] {CQ r} (h:uC CQ=some r):
    AX Tryz.prog 155 [.agg #[.int .i64 CQ.Kind, .string CQ.Value]] [] (Val (.bool r)):=by
 refine AX.intro Tryz.func155 O O O fun w R=>?_;refine .seq<|.region<|.box O O fun g1=>.b [1] O<|.seq<|.region<|.lb 0 0 O<|.bd h fun r1 hr1 h=>.cv [] (zAI hr1) zTb O<|.bf [2] [] 1 O O ?_;cases h;exact .rv O O ⟨O,O⟩ zw
def xD [AO] (AL:(List zQ)):Option Int:=
 bnd (zI (τ:=Int ⊕ Unit) (fun (s1:Int)=>bif decide (s1<(AL.length:Int)) then (bnd (AU AL s1) fun x1=>bnd (uC x1) fun r1=>bif r1 then (some (.done (.inl s1))) else (some (.next (wrap .i64 (s1+1))))) else (some (.done (.inr ())))) 0) fun o1=>wN o1 fun o2=>some (-1)
theorem pA [AO] {AL A1 c1 r} (h:xD AL=some r):
    AX Tryz.prog 151 [.slice A1 AL.length c1, .func (.func 155) #[] #[]] [.ro (BP zP A1 c1 AL)] (Val (.int .i64 r)):=by
 refine AX.intro Tryz.func151 O O O fun w R=>?_;refine .ab [0,1] O<|.seq<|.ab [0,1,7,8] O<|.bd h fun o1 hl1 h=>.EJ 1 (fun (o2:Unit) (e2:Unit)=>[]) (fun o2 e2=>[]) O O (fun o2=>o1= .inr o2) ?_ ?_
 ·refine .block<|.BH hl1 0 (fun (s1:Int) (e1:Unit)=>[0,1,7, .s 8 (.int .i64 s1)]) (fun s1 e1=>[]) O O () (zb O) (fun _ w=>w) ?_;rintro s1 e1 st1 hm1 hd1 h1;refine .ae O<|.seq<|.cb h1 O (fun h1=>?_) (fun h1=>?_)
  ·refine .sk<|.pr [0,1,7,8] O<|.seq<|.block<|.ab [0,1,5,7,8] O<|.a 3 O<|.bd h1 fun x1 hx1 h1=>.FB hx1 0 O fun b1 ED=>.ld ED 0 0 O<|.bd h1 fun r1 hr1 h1=>.cv [] (zAn hr1) zWz O<|.bf [0,1,5,7,8,16] [] 1 O O<|.cb h1 O (fun h1=>?_) (fun h1=>?_)
   ·refine .EQ [4] [] 1 O O ?_;cases h1;cases hd1 _ rfl
    have h:some _=some _:=h;cases h;exact .rv O O ⟨O,O⟩ zw
   refine .skip<|.BF<|.AB<|.pr [0,1,7,8] O<|.region ?_;cases h1;exact .be O<|.ag () hm1 O zw
  refine .xq O ?_;cases h1;cases hd1 _ rfl
  exact .AB<|.DN () () O trivial (zl [] 1 O)
 rintro o2 e2 ho;subst ho;have h:=IV h;refine .ae O ?_;cases h;exact .rv O O ⟨O,O⟩ zw
theorem zPJ: @zFa N8=some true:=by decide+kernel
def aC:Option Bool:=some true
theorem zJF {r} (h:aC=some r):AX Tryz.prog 4 [] [.ro (BP AP (some ⟨1,0,none⟩) 6 ([0,2,4,7,9,11]:List Int))] (Val (.bool r)):=by
 cases h;exact @zMq N8 true zPJ
def yG [AO] (AL:(List zQ)):Option Bool:=
 bnd (xD AL) fun r1=>some (decide (r1≥0))
theorem rN [AO] {AL A1 c1 r} (h:yG AL=some r):
    AX Tryz.prog 112 [.slice A1 AL.length c1, .func (.func 155) #[] #[]] [.ro (BP zP A1 c1 AL)] (Val (.bool r)):=by
 refine AX.intro Tryz.func112 O O O fun w R=>?_;refine .ab [0,1] O<|.a 2 O<|.bd h fun r1 hr1 h=>.cv [0] (pA hr1) zRw O<|.bf [4] [] 1 O O ?_;cases h;exact .rv O O ⟨O,O⟩ zw
theorem zXl:BV Tryz.prog 224:=en Tryz.func224 (by kernel_rfl)
def vB (AL:ByteArray) (IC:Int):Option Int:=
 some (fJ AL IC)
theorem kH {AL IC r} (h:vB AL IC=some r):
    AX Tryz.prog 224 [.string AL, .int .u8 IC] [] (Val (.int .i64 r)):=by
 unfold vB at h
 refine AX.intro Tryz.func224 O O O fun w R=>?_;refine .ab [0,1] O<|.a 2 O<|.zq Tryz.func232 (by kernel_rfl) (by kernel_rfl) (by kernel_rfl) (by kernel_rfl) O O O O<|.b [4] O ?_;cases h;exact .rv O O ⟨O,O⟩ zw
theorem zRP:BV Tryz.prog 203:=en Tryz.func203 (by kernel_rfl)
def vX (AL:ByteArray) (IC:Int):Option Int:=
 bnd (vB AL IC) fun r1=>some r1
theorem iQ {AL IC r} (h:vX AL IC=some r):
    AX Tryz.prog 203 [.string AL, .int .u8 IC] [] (Val (.int .i64 r)):=by
 refine AX.intro Tryz.func203 O O O fun w R=>?_;refine .ab [0,1] O<|.a 2 O<|.bd h fun r1 hr1 h=>.cv [] (kH hr1) zXl O<|.b [4] O ?_;cases h;exact .rv O O ⟨O,O⟩ zw
theorem zWF:BV Tryz.prog 204:=en Tryz.func204 (by kernel_rfl)
def jJ [AO] (AL:ByteArray):Option (List Int):=
 bnd (tN (AL.size:Int)) fun r1=>bnd (mkS 1 0 r1 r1) fun l1=>bnd (zI (τ:=List Int) (fun (s1:Int × List Int)=>bif decide (s1.1<(AL.size:Int)) then (bnd (DU AL s1.1) fun y1=>bnd (PG .i64 (wrap .i64 (wrap .u8 (y1 - 32))) ((wrap .i64 (6*s1.1)).tmod 8)) fun q1=>bnd (AU s1.2 (wrap .i64 ((wrap .i64 (6*s1.1)).tdiv 8))) fun x1=>bnd (xJ s1.2 (wrap .i64 ((wrap .i64 (6*s1.1)).tdiv 8)) (CZ .u8 x1 (wrap .u8 q1))) fun l2=>bif decide (q1>255) then (bnd (AU l2 (wrap .i64 ((wrap .i64 ((wrap .i64 (6*s1.1)).tdiv 8))+1))) fun x2=>bnd (xJ l2 (wrap .i64 ((wrap .i64 ((wrap .i64 (6*s1.1)).tdiv 8))+1)) (CZ .u8 x2 (wrap .u8 (xP .i64 q1 8)))) fun l3=>some (.next (wrap .i64 (s1.1+1),l3))) else (some (.next (wrap .i64 (s1.1+1),l2)))) else (some (.done s1.2))) (0,l1)) fun o1=>some o1
theorem zHK [AO] {AL r} (h:jJ AL=some r):
    AX Tryz.prog 204 [.string AL] [] (fun v F=>∃ A1 c1,v= .slice A1 r.length c1∧F= [.res (zD AP 5 A1 c1 r)]):=by
 refine AX.intro Tryz.func204 O O O fun w R=>?_;refine .ab [0] O<|.a 2 O<|.bd h fun r1 hr1 h=>.cv [] (eC hr1) zSg O<|.bd h fun l1 hl1 h=>.RU (E:=AP) 0 hl1 O O O O O O O O O O fun g1=>.b [0,3] O<|.seq<|.ab [0,3,13,14] O<|.bd h fun o1 hl1 h=>.DZ 1 (fun (e2:Option Addr × Nat)=>[.s 3 (.slice e2.1 o1.length e2.2)]) (fun e2=>[.res (zD AP 5 e2.1 e2.2 o1)]) O O ?_ ?_
 ·refine .block<|.BH hl1 1 (fun (s1:Int × List Int) (e1:Option Addr × Nat)=>[0, .s 3 (.slice e1.1 s1.2.length e1.2),13, .s 14 (.int .i64 s1.1)]) (fun s1 e1=>[.res (zD AP 5 e1.1 e1.2 s1.2)]) O O ((some ⟨g1,0,none⟩),(Int.toNat r1)) (zb O) (fun _ w=>w) ?_;rintro s1 ⟨A1,c1⟩ st1 hm1 hd1 h1;refine .ae O<|.seq<|.cb h1 O (fun h1=>?_) (fun h1=>?_)
  ·refine .sk<|.pr [0,3,13,14] O<|.seq<|.block<|.ab [0,3,4,13,14] O<|.ab [0,3,4,5,6,13,14] O<|.a 2 O<|.bd h1 fun y1 hy1 h1=>.DU O O O O O hy1<|.n 3 O<|.bd h1 fun q1 hq1 h1=>.shl O O O hq1<|.b [0,3,5,7,13,14] O<|.a 2 O<|.bd h1 fun x1 hx1 h1=>.II hx1 0 O fun g2 hA=>?_;subst hA;refine .EZ 0 hx1 O O (.head _) O O<|.n 3 O<|.II hx1 0 O fun g3 hA=>?_;cases hA;refine .bd h1 fun l2 hl2 h1=>.IY 0 hx1 hl2 O O .z O O O O O ?_;refine .ss 3 (zF hl2) ?_;refine .ss 30 (zF hl2)<|.b [0,3,5,7,13,14] O<|.ab [0,3,5,7,13,14,39] O<|.cb h1 O (fun h1=>?_) (fun h1=>?_)
   ·refine .region<|.n 3 O<|.bd h1 fun x2 hx2 h1=>.II hx2 0 O fun g4 hA=>?_;cases hA;refine .EZ 0 hx2 O O (.head _) O O<|.n 4 O<|.II hx2 0 O fun g5 hA=>?_;cases hA;refine .bd h1 fun l3 hl3 h1=>.IY 0 hx2 hl3 O O .z O O O O O ?_;refine .ss 3 (zF hl3) ?_;refine .ss 40 (zF hl3)<|.done<|.BF<|.AB<|.pr [0,3,13,14] O<|.region ?_;cases h1;exact .be O<|.ag ((some ⟨g2,0,none⟩),c1) hm1 O zw
   refine .skip<|.BF<|.AB<|.pr [0,3,13,14] O<|.region ?_;cases h1;exact .be O<|.ag ((some ⟨g2,0,none⟩),c1) hm1 O zw
  refine .xq O ?_;cases h1;cases hd1 _ rfl
  exact .AB<|.hE (A1,c1) O zw
 rintro ⟨A2,c2⟩;refine .ab [2] O ?_;cases h;exact .rv O O ⟨A2,c2,O,O⟩ zw
theorem zXv:BV Tryz.prog 179:=en Tryz.func179 (by kernel_rfl)
def jI [AO] (CQ:zQ):Option (List Int):=
 bif (CQ.Kind==1) then (bnd (zI (τ:=List Int) (fun (s1:List Int × Int)=>bif decide (s1.2<(CQ.Value.size:Int)) then (bnd (DU CQ.Value s1.2) fun y1=>bnd (vX (⟨#[48,49,50,51,52,53,54,55,56,57,32,45,46]⟩) y1) fun r1=>bnd (DU CQ.Value (wrap .i64 (s1.2+1))) fun y2=>bnd (vX (⟨#[48,49,50,51,52,53,54,55,56,57,32,45,46]⟩) y2) fun r2=>bnd (app 1 s1.1 [wrap .u8 (CZ .i64 (yM .i64 r1 4) r2)]) fun l1=>some (.next (l1,wrap .i64 (s1.2+2)))) else (some (.done s1.1))) ([],0)) fun o1=>some o1) else (bif (CQ.Kind==2) then (bnd (jJ CQ.Value) fun r3=>some r3) else (bnd (lu CQ.Value) fun l2=>some l2))
theorem zHM [AO] {CQ r} (h:jI CQ=some r):
    AX Tryz.prog 179 [.agg #[.int .i64 CQ.Kind, .string CQ.Value]] [] (fun v F=>∃ A1 c1,v= .slice A1 r.length c1∧F= [.res (zD AP 5 A1 c1 r)]):=by
 refine AX.intro Tryz.func179 O O O fun w R=>?_;refine .seq<|.region<|.box O O fun g1=>.b [1] O<|.seq<|.a 1 O<|.lb 0 0 O<|.b [1,8] O<|.block<|.ab [1,8,9] O<|.cb h O (fun h=>?_) (fun h=>?_)
 ·refine .ab [1,3] O<|.seq<|.ae O<|.AQ (fun _ w=>w.EH AP 5)<|.bd h fun o1 hl1 h=>.DZ 2 (fun (e2:Option Addr × Nat)=>[.s 3 (.slice e2.1 o1.length e2.2)]) (fun e2=>[.res (zD AP 5 e2.1 e2.2 o1)]) O O ?_ ?_
  ·refine .block<|.BH hl1 1 (fun (s1:List Int × Int) (e1:Option Addr × Nat)=>[1, .s 3 (.slice e1.1 s1.1.length e1.2), .s 4 (.int .i64 s1.2)]) (fun s1 e1=>[.res (zD AP 5 e1.1 e1.2 s1.1)]) O O (none,0) (zb O) (fun _ w=>w) ?_;rintro s1 ⟨A1,c1⟩ st1 hm1 hd1 h1;refine .seq<|.a 2 O<|.lb 1 1 O<|.b [1,3,4,15] O<|.cb h1 O (fun h1=>?_) (fun h1=>?_)
   ·refine .sk<|.pr [1,3,4] O<|.seq<|.block<|.seq<|.regionF mixed (by kernel_rfl)<|.p O O<|.lb 1 1 O<|.p O O<|.bd h1 fun y1 hy1 h1=>.DU O O O O O hy1<|.bd h1 fun r1 hr1 h1=>.cv [] (iQ hr1) zRP O<|.p O O<|.lb 1 1 O<|.n 2 O<|.bd h1 fun y2 hy2 h1=>.DU O O O O O hy2<|.bd h1 fun r2 hr2 h1=>.cv [] (iQ hr2) zRP O<|.bq [1,3,4,5,6] O<|.region<|.n 6 O<|.bS O fun g2=>.bd h1 fun l1 hl1 h1=>.app (E:=AP) hl1 O O O (.s .z) O O O O O O O O (oP (.head _) O O) O O fun A3 c3=>.p O O<|.done<|.BF<|.AB<|.pf [1,3,4] [0] 1 O O<|.region ?_;cases h1;exact .be O<|.ag (A3,c3) hm1 O zw
   refine .xq O ?_;cases h1;cases hd1 _ rfl
   exact .AB<|.hE (A1,c1) O (zl [0] 1 O)
  rintro ⟨A2,c2⟩;refine .ab [2] O ?_;cases h;exact .rv O O ⟨A2,c2,O,O⟩ zw
 refine .ab [1,38] O<|.cb h O (fun h=>?_) (fun h=>?_)
 ·refine .a 1 O<|.lb 1 0 O<|.bd h fun r3 hr3 h=>.cr 2 [] [] 0 (zHK hr3) zWF O fun A4 c4=>.bf [2] [0] 1 O O ?_;cases h;exact .rv O O ⟨A4,c4,O,O⟩ zw
 refine .skip<|.BF<|.AB<|.pr [1] O<|.a 1 O<|.lb 1 0 O<|.bd h fun l2 hl2 h=>.s2L O O hl2 O O O O O O fun A5 c5=>.bf [2] [0] 1 O O ?_;cases h;exact .rv O O ⟨A5,c5,O,O⟩ zw
theorem zXb:BV Tryz.prog 156:=en Tryz.func156 (by kernel_rfl)
def mE [AO] (CQ:zQ):Option (List Int):=
 bnd (jI CQ) fun r1=>bnd (app 1 ([wrap .u8 (CZ .i64 (yM .i64 CQ.Kind 6) (r1.length:Int))]) r1) fun l1=>some l1
theorem zFo [AO] {CQ r} (h:mE CQ=some r):
    AX Tryz.prog 156 [.agg #[.int .i64 CQ.Kind, .string CQ.Value]] [] (fun v F=>∃ A1 c1,v= .slice A1 r.length c1∧F= [.res (zD AP 5 A1 c1 r)]):=by
 refine AX.intro Tryz.func156 O O O fun w R=>?_;refine .seq<|.region<|.box O O fun g1=>.b [1] O<|.seq<|.region<|.lb 0 0 O<|.bd h fun r1 hr1 h=>.cr 2 [] [] 0 (zHM hr1) zXv O fun A1 c1=>.b [1,3] O<|.a 1 O<|.lb 0 1 O<|.n 5 O<|.bS O fun g2=>.p O O<|.AQ (fun _ w=>(w.sl [1] 0 O).CO)<|.AQ (fun _ w=>(w.sl [1] 0 O).IB (E:=AP) (e:=5) [wrap .u8 (CZ .i64 (yM .i64 CQ.Kind 6) (r1.length:Int))] O O)<|.bd h fun l1 hl1 h=>.app (E:=AP) hl1 O O O .z O O O O O O O O (OB EI) O O fun A2 c2=>.bf [2] [0] 2 O O ?_;cases h;exact .rv O O ⟨A2,c2,O,O⟩ zw
theorem zXx:BV Tryz.prog 115:=en Tryz.func115 (by kernel_rfl)
def qL [AO] (BM:(List zQ)):Option ((List Int) × Int):=
 bif decide ((BM.length:Int)>16) then (some ([],3)) else (bnd (yG BM) fun r1=>bif r1 then (some ([],1)) else (bnd (zI (τ:=List Int) (fun (s1:List Int × Int)=>bif decide (s1.2<(BM.length:Int)) then (bnd (AU BM s1.2) fun x1=>bnd (mE x1) fun r2=>bnd (app 1 s1.1 r2) fun l1=>some (.next (l1,wrap .i64 (s1.2+1)))) else (some (.done s1.1))) ([],0)) fun o1=>bnd (app 1 o1 [193]) fun l2=>some (l2,0)))
theorem zBt [AO] {BM A1 c1 r} (h:qL BM=some r):
    AX Tryz.prog 115 [.slice A1 BM.length c1] [.ro (BP zP A1 c1 BM)] (fun v F=>∃ A2 c2,v= .tuple #[.slice A2 r.1.length c2, .int .i64 r.2]∧F= [.res (zD AP 5 A2 c2 r.1)]):=by
 refine AX.intro Tryz.func115 O O O fun w R=>?_;refine .ab [0] O<|.seq<|.block<|.ab [0,7] O<|.cb h O (fun h=>?_) (fun h=>?_)
 ·refine .EQ [2,3] [] 1 O O<|.AQ (fun _ w=>w.EH AP 5) ?_;cases h;exact .rv O O ⟨none,0,O,O⟩ zw
 refine .a 1 O<|.bd h fun r1 hr1 h=>.cv [0] (rN hr1) zRJ O<|.b [0,11] O<|.cb h O (fun h=>?_) (fun h=>?_)
 ·refine .EQ [2,3] [] 1 O O<|.AQ (fun _ w=>w.EH AP 5) ?_;cases h;exact .rv O O ⟨none,0,O,O⟩ zw
 refine .skip<|.BF<|.AB<|.pr [0] O<|.ae O<|.seq<|.ab [4,14,15,16] O<|.AQ (fun _ w=>w.EH AP 5)<|.bd h fun o1 hl1 h=>.DZ 2 (fun (e2:Option Addr × Nat)=>[.s 4 (.slice e2.1 o1.length e2.2)]) (fun e2=>[.res (zD AP 5 e2.1 e2.2 o1)]) O O ?_ ?_
 ·refine .block<|.BH hl1 1 (fun (s1:List Int × Int) (e1:Option Addr × Nat)=>[.s 4 (.slice e1.1 s1.1.length e1.2),14,15, .s 16 (.int .i64 s1.2)]) (fun s1 e1=>[.res (zD AP 5 e1.1 e1.2 s1.1)]) O O (none,0) (zb O) (fun _ w=>w) ?_;rintro s1 ⟨A2,c2⟩ st1 hm1 hd1 h1;refine .ae O<|.seq<|.cb h1 O (fun h1=>?_) (fun h1=>?_)
  ·refine .sk<|.pr [4,14,15,16] O<|.seq<|.block<|.seq<|.region<|.bd h1 fun x1 hx1 h1=>.FB hx1 1 O fun b1 ED=>.ld ED 0 0 O<|.alloc O O fun g1=>.sb 0 0 O<|.bf [4,6,14,15,16] [0] 1 O O<|.region<|.p O O<|.lb 0 0 O<|.bd h1 fun r2 hr2 h1=>.cr 4 [] [] 0 (zFo hr2) zXb O fun A4 c4=>.AQ (fun _ w=>w.CO)<|.bd h1 fun l1 hl1 h1=>.app (E:=AP) hl1 O O O (FX 2 O) O O O O O O O O (OB (.head _)) O O fun A5 c5=>.p O O<|.done<|.BF<|.AB<|.pf [4,14,15,16] [0] 2 O O<|.region ?_;cases h1;exact .be O<|.ag (A5,c5) hm1 O zw
  refine .xq O ?_;cases h1;cases hd1 _ rfl
  exact .AB<|.hE (A2,c2) O (zl [0] 1 O)
 rintro ⟨A3,c3⟩;refine .a 1 O<|.bS O fun g2=>.bd h fun l2 hl2 h=>.app (E:=AP) hl2 O O O (.s .z) O O O O O O O O (oP (.head _) O O) O O fun A6 c6=>.bf [2,3] [0] 1 O O ?_;cases h;exact .rv O O ⟨A6,c6,O,O⟩ zw
theorem Vp:BV Tryz.prog 90:=en Tryz.func90 (by kernel_rfl)
def rI [AO] (BA:(List Int)):Option Int:=
 bnd (zI (τ:=Int) (fun (s1:Int × Int)=>bif decide (s1.2<(BA.length:Int)) then (bnd (AU BA s1.2) fun x1=>some (.next (wrap .u8 (s1.1+x1),wrap .i64 (s1.2+1)))) else (some (.done s1.1))) (0,0)) fun o1=>some (wrap .u8 (0 - o1))
theorem iF [AO] {BA A1 c1 r} (h:rI BA=some r):
    AX Tryz.prog 90 [.slice A1 BA.length c1] [.ro (BP AP A1 c1 BA)] (Val (.int .u8 r)):=by
 refine AX.intro Tryz.func90 O O O fun w R=>?_;refine .ab [0] O<|.ae O<|.seq<|.ab [3,6,7,8] O<|.bd h fun o1 hl1 h=>.cu 1 [.s 3 (.int .u8 o1)] [] O O ?_ ?_
 ·refine .block<|.BH hl1 0 (fun (s1:Int × Int) (e1:Unit)=>[.s 3 (.int .u8 s1.1),6,7, .s 8 (.int .i64 s1.2)]) (fun s1 e1=>[]) O O () (zb O) (fun _ w=>w) ?_;rintro s1 e1 st1 hm1 hd1 h1;refine .ae O<|.seq<|.cb h1 O (fun h1=>?_) (fun h1=>?_)
  ·refine .sk<|.pr [3,6,7,8] O<|.seq<|.block<|.seq<|.region<|.bd h1 fun x1 hx1 h1=>.FB hx1 0 O fun b1 ED=>.ld ED 0 0 O<|.bf [3,5,6,7,8] [] 1 O O<|.region<|.n 4 O<|.done<|.BF<|.AB<|.pr [3,6,7,8] O<|.region ?_;cases h1;exact .be O<|.ag () hm1 O zw
  refine .xq O ?_;cases h1;cases hd1 _ rfl
  exact .AB<|.hU O (zl [] 1 O)
 refine .ab [2] O ?_;cases h;exact .rv O O ⟨O,O⟩ zw
theorem Vq:BV Tryz.prog 77:=en Tryz.func77 (by kernel_rfl)
def tA [AO] (BA:(List Int)):Option (List Int):=
 bnd (zR BA) fun r1=>bnd (rI BA) fun r2=>bnd (app 1 r1 [r2]) fun l1=>some l1
theorem kW [AO] {BA A1 c1 r} (h:tA BA=some r):
    AX Tryz.prog 77 [.slice A1 BA.length c1] [.ro (BP AP A1 c1 BA)] (fun v F=>∃ A2 c2,v= .slice A2 r.length c2∧F= [.res (zD AP 5 A2 c2 r)]):=by
 refine AX.intro Tryz.func77 O O O fun w R=>?_;refine .ab [0] O<|.a 1 O<|.bd h fun r1 hr1 h=>.cr 2 [0] [] 0 (xI hr1) YP O fun A2 c2=>.p O O<|.bd h fun r2 hr2 h=>.cv [1] (iF hr2) Vp O<|.bS O fun g1=>.bd h fun l1 hl1 h=>.app (E:=AP) hl1 O O O (.s .z) O O O O O O O O (oP (.head _) O O) O O fun A3 c3=>.bf [2] [0] 2 O O ?_;cases h;exact .rv O O ⟨A3,c3,O,O⟩ zw
theorem Jl:BV Tryz.prog 75:=en Tryz.func75 (by kernel_rfl)
def xS [AO] (EK:zW) (IE:Int):Option (List Int):=
 bnd ((bif (IE==1) then (bnd (app 1 ([1,0,EK.Code]) [wrap .u8 EK.BK,wrap .u8 (xP .u32 EK.BK 8),wrap .u8 (xP .u32 EK.BK 16)]) fun l1=>some l1) else (some ([1,0,EK.Code])):Option (List Int))) fun o1=>bnd (qL EK.Fields) fun r1=>bnd (app 1 o1 r1.1) fun l2=>bnd (zI (τ:=List Int) (fun (s1:List Int)=>bif (((wrap .i64 ((s1.length:Int)+1)).tmod 8) != 0) then (bnd (app 1 s1 [0]) fun l3=>some (.next l3)) else (some (.done s1))) l2) fun o2=>bnd (AU o2 1) fun x1=>bnd (xJ o2 1 (wrap .u8 (wrap .i64 ((wrap .i64 ((o2.length:Int)+1)).tdiv 8)))) fun l4=>bnd (tA l4) fun r2=>some r2
theorem sY [AO] {EK IE A1 c1 r} (h:xS EK IE=some r):
    AX Tryz.prog 75 [.agg (Um EK A1 c1).toArray, .int .i64 IE] [.ro (BP zP A1 c1 EK.Fields)] (fun v F=>∃ A2 c2,v= .slice A2 r.length c2∧F= [.res (zD AP 5 A2 c2 r)]):=by
 refine AX.intro Tryz.func75 O O O fun w R=>?_;refine .seq<|.region<|.box O O fun g1=>.b [1,2] O<|.a 1 O<|.lb 1 0 O<|.bS O fun g2=>.b [1,2,5] O<|.seq<|.bd h fun o1 hj1 h=>.DZ 1 (fun (e1:Option Addr × Nat)=>[2, .s 5 (.slice e1.1 o1.length e1.2)]) (fun e1=>[.res (zD AP 5 e1.1 e1.2 o1)]) O O ?_ ?_
 ·refine .ab [2,5,12] O<|.cb hj1 O (fun hj1=>?_) (fun hj1=>?_)
  ·refine .region<|.n 2 O<|.lb 2 1 O<|.n 2 O<|.lb 2 1 O<|.n 3 O<|.lb 2 1 O<|.n 2 O<|.bS O fun g3=>.AQ (fun _ w=>(w.sl [1] 0 O).IB (E:=AP) (e:=5) [1,0,EK.Code] O O)<|.bd hj1 fun l1 hl1 hj1=>.app (E:=AP) hl1 O O O .z O O O O O O O O (oP EI O O) O O fun A3 c3=>?_;cases hj1;exact .be O<|.hE (A3,c3) O (zl [0] 1 O)
  refine .skip<|.AQ (fun _ w=>w.IB (E:=AP) (e:=5) [1,0,EK.Code] O O) ?_;cases hj1;exact .AB<|.hE ((some ⟨g2,0,none⟩),([1,0,EK.Code]:List Int).length) O zw
 rintro ⟨A2,c2⟩;refine .a 1 O<|.lb 3 1 O<|.bd h fun r1 hr1 h=>.cr 4 [2] [] 0 (zBt hr1) zXx O fun A4 c4=>.bf [5,6] [0,0] 2 O O<|.a 2 O<|.AQ (fun _ w=>w.CO)<|.bd h fun l2 hl2 h=>.app (E:=AP) hl2 O O O (.s .z) O O O O O O O O (OB (.head _)) O O fun A5 c5=>.bf [5] [0] 1 O O<|.seq<|.bd h fun o2 hl1 h=>.DZ 1 (fun (e3:Option Addr × Nat)=>[.s 5 (.slice e3.1 o2.length e3.2)]) (fun e3=>[.res (zD AP 5 e3.1 e3.2 o2)]) O O ?_ ?_
 ·refine .block<|.BH hl1 1 (fun (s1:List Int) (e2:Option Addr × Nat)=>[.s 5 (.slice e2.1 s1.length e2.2)]) (fun s1 e2=>[.res (zD AP 5 e2.1 e2.2 s1)]) O O (A5,c5) (zb O) (fun _ w=>w) ?_;rintro s1 ⟨A6,c6⟩ st1 hm1 hd1 h1;refine .seq<|.ab [5,40] O<|.cb h1 O (fun h1=>?_) (fun h1=>?_)
  ·refine .sk<|.pr [5] O<|.block<|.region<|.p O O<|.bS O fun g4=>.bd h1 fun l3 hl3 h1=>.app (E:=AP) hl3 O O O (.s .z) O O O O O O O O (oP (.head _) O O) O O fun A8 c8=>.p O O<|.done<|.BF ?_;cases h1;exact .AB<|.ag (A8,c8) hm1 O (zl [0] 1 O)
  refine .xq O ?_;cases h1;cases hd1 _ rfl
  exact .AB<|.hE (A6,c6) O zw
 rintro ⟨A7,c7⟩;refine .a 6 O<|.bd h fun x1 hx1 h=>.II hx1 0 O fun g5 hA=>?_;subst hA;refine .bd h fun l4 hl4 h=>.IY 0 hx1 hl4 O O .z O O O O O ?_;refine .ss 5 (zF hl4) ?_;refine .ss 44 (zF hl4) ?_;refine .ss 45 (zF hl4)<|.b [5] O<|.a 1 O<|.AQ (fun _ w=>w.CO)<|.bd h fun r2 hr2 h=>.cr 2 [0] [] 0 (kW hr2) Vq O fun A9 c9=>.bf [4] [0] 1 O O ?_;cases h;exact .rv O O ⟨A9,c9,O,O⟩ zw
theorem Vr:BV Tryz.prog 74:=en Tryz.func74 (by kernel_rfl)
def uN [AO] (EK:zW) (IE:Int):Option Bool:=
 bif !EK.CX then (bnd ((bif (EK.Code==0) then (bif (EK.BK==0) then (some ((EK.Fields.length:Int)==0)) else (some false)) else (some false):Option Bool)) fun o1=>some o1) else (bnd ((bif (IE==1) then (bif decide (EK.BK≥16777216) then (some true) else (bif (IE != 1) then (bif (EK.BK != 0) then (some true) else (bnd (AU ([2,5,7]:List Int) IE) fun x1=>bif decide ((EK.Fields.length:Int)<x1) then (some true) else (some (decide ((EK.Fields.length:Int)>16))))) else (bnd (AU ([2,5,7]:List Int) IE) fun x2=>bif decide ((EK.Fields.length:Int)<x2) then (some true) else (some (decide ((EK.Fields.length:Int)>16)))))) else (bif (IE != 1) then (bif (EK.BK != 0) then (some true) else (bnd (AU ([2,5,7]:List Int) IE) fun x3=>bif decide ((EK.Fields.length:Int)<x3) then (some true) else (some (decide ((EK.Fields.length:Int)>16))))) else (bnd (AU ([2,5,7]:List Int) IE) fun x4=>bif decide ((EK.Fields.length:Int)<x4) then (some true) else (some (decide ((EK.Fields.length:Int)>16))))):Option Bool)) fun o2=>bif o2 then (some false) else (bnd ((bnd (yH EK.Fields) fun r1=>bif !r1 then (bnd (xS EK IE) fun r2=>some (decide ((r2.length:Int)≤2040))) else (some false):Option Bool)) fun o3=>some o3))
theorem oQ [AO] {EK IE A1 c1 r} (h:uN EK IE=some r):
    AX Tryz.prog 74 [.agg (Um EK A1 c1).toArray, .int .i64 IE] [.ro (BP zP A1 c1 EK.Fields), .ro (BP xA (some ⟨0,0,none⟩) 3 ([2,5,7]:List Int))] (Val (.bool r)):=by
 refine AX.intro Tryz.func74 O O O fun w R=>?_;refine .seq<|.region<|.box O O fun g1=>.b [1,2] O<|.seq<|.a 1 O<|.lb 0 0 O<|.b [1,2,7] O<|.cb h O (fun h=>?_) (fun h=>?_)
 ·refine .seq<|.bd h fun o1 hj1 h=>.cu 2 [.s 4 (.bool o1)] [] O O ?_ ?_
  ·refine .region<|.p O O<|.lb 1 0 O<|.n 2 O<|.gs 11 hj1 O (fun hj1=>?_) (fun hj1=>?_)
   ·refine .n 1 O<|.BR O O<|.lb 2 0 O<|.n 3 O<|.gs 16 hj1 O (fun hj1=>?_) (fun hj1=>?_)
    ·refine .n 1 O<|.BR O O<|.lb 3 0 O ?_;cases hj1;exact .be O<|.hU O (zl [] 2 O)
    cases hj1;exact .be O<|.hU O (zl [] 2 O)
   cases hj1;exact .be O<|.hU O (zl [] 2 O)
  cases h;exact .rv O O ⟨O,O⟩ (zl [] 1 O)
 refine .sk<|.pr [1,2] O<|.seq<|.seq<|.bd h fun o2 hj2 h=>.cu 0 [1,2, .s 52 (.bool o2)] [] O O ?_ ?_
 ·refine .regionF mixed (by kernel_rfl)<|.n 3 O<|.gs 24 hj2 O (fun hj2=>?_) (fun hj2=>?_)
  ·refine .n 1 O<|.BR O O<|.lb 2 0 O<|.n 3 O<|.gs 29 hj2 O (fun hj2=>?_) (fun hj2=>?_)
   ·cases hj2;exact .beq O<|.hU O zw
   refine .n 3 O<|.gs 32 hj2 O (fun hj2=>?_) (fun hj2=>?_)
   ·refine .n 1 O<|.BR O O<|.lb 2 0 O<|.n 4 O<|.gs 38 hj2 O (fun hj2=>?_) (fun hj2=>?_)
    ·cases hj2;exact .beq O<|.hU O zw
    refine .n 1 O<|.BR O O<|.lb 3 0 O<|.n 2 O<|.BR O O<|.bd hj2 fun x1 hx1 hj2=>.oq (E:=xA) hx1 O O O (zm 2 O) O O O O O fun b1 ED=>.BR O O<|.ld ED 0 0 O<|.n 3 O<|.gs 47 hj2 O (fun hj2=>?_) (fun hj2=>?_)
    ·cases hj2;exact .beq O<|.hU O (zl [] 1 O)
    refine .n 1 O<|.BR O O<|.lb 3 1 O ?_;cases hj2;exact .beq O<|.hU O (zl [] 1 O)
   refine .n 7 O<|.BR O O<|.lb 3 0 O<|.n 2 O<|.BR O O<|.bd hj2 fun x2 hx2 hj2=>.oq (E:=xA) hx2 O O O (zm 2 O) O O O O O fun b2 JA=>.BR O O<|.ld JA 0 0 O<|.n 3 O<|.gs 47 hj2 O (fun hj2=>?_) (fun hj2=>?_)
   ·cases hj2;exact .beq O<|.hU O (zl [] 1 O)
   refine .n 1 O<|.BR O O<|.lb 3 1 O ?_;cases hj2;exact .beq O<|.hU O (zl [] 1 O)
  refine .n 8 O<|.gs 32 hj2 O (fun hj2=>?_) (fun hj2=>?_)
  ·refine .n 1 O<|.BR O O<|.lb 2 0 O<|.n 4 O<|.gs 38 hj2 O (fun hj2=>?_) (fun hj2=>?_)
   ·cases hj2;exact .beq O<|.hU O zw
   refine .n 1 O<|.BR O O<|.lb 3 0 O<|.n 2 O<|.BR O O<|.bd hj2 fun x3 hx3 hj2=>.oq (E:=xA) hx3 O O O (zm 2 O) O O O O O fun b3 JY=>.BR O O<|.ld JY 0 0 O<|.n 3 O<|.gs 47 hj2 O (fun hj2=>?_) (fun hj2=>?_)
   ·cases hj2;exact .beq O<|.hU O (zl [] 1 O)
   refine .n 1 O<|.BR O O<|.lb 3 1 O ?_;cases hj2;exact .beq O<|.hU O (zl [] 1 O)
  refine .n 7 O<|.BR O O<|.lb 3 0 O<|.n 2 O<|.BR O O<|.bd hj2 fun x4 hx4 hj2=>.oq (E:=xA) hx4 O O O (zm 2 O) O O O O O fun b4 KN=>.BR O O<|.ld KN 0 0 O<|.n 3 O<|.gs 47 hj2 O (fun hj2=>?_) (fun hj2=>?_)
  ·cases hj2;exact .beq O<|.hU O (zl [] 1 O)
  refine .n 1 O<|.BR O O<|.lb 3 1 O ?_;cases hj2;exact .beq O<|.hU O (zl [] 1 O)
 refine .cb h O (fun h=>?_) (fun h=>?_)
 ·refine .EQ [4] [] 2 O O ?_;cases h;exact .rv O O ⟨O,O⟩ (zl [] 1 O)
 refine .sk<|.pr [1,2] O<|.seq<|.bd h fun o3 hj3 h=>.cu 2 [.s 4 (.bool o3)] [] O O ?_ ?_
 ·refine .region<|.p O O<|.lb 3 0 O<|.bd hj3 fun r1 hr1 hj3=>.cv [1] (rP hr1) zRJ O<|.n 2 O<|.gs 57 hj3 O (fun hj3=>?_) (fun hj3=>?_)
  ·refine .BR O O<|.lb 0 0 O<|.n 1 O<|.BR O O<|.bd hj3 fun r2 hr2 hj3=>.cr 4 [1] [] 0 (sY hr2) Jl O fun A2 c2=>?_;cases hj3;exact .be O<|.hU O (zl [] 3 O)
  cases hj3;exact .be O<|.hU O (zl [] 2 O)
 cases h;exact .rv O O ⟨O,O⟩ (zl [] 1 O)
theorem zUZ:BV Tryz.prog 76:=en Tryz.func76 (by kernel_rfl)
def xQ [AO] (slices:(List (List Int))):Option (List Int):=
 bnd (zI (τ:=Int) (fun (s1:Int × Int)=>bif decide (s1.2<(slices.length:Int)) then (bnd (AU slices s1.2) fun x1=>bif decide ((wrap .i64 (s1.1+(x1.length:Int)))<0) then (none) else (some (.next (wrap .i64 (s1.1+(x1.length:Int)),wrap .i64 (s1.2+1))))) else (some (.done s1.1))) (0,0)) fun o1=>bnd (oh o1) fun r1=>bnd (zI (τ:=List Int) (fun (s2:List Int × Int)=>bif decide (s2.2<(slices.length:Int)) then (bnd (AU slices s2.2) fun x2=>bnd (app 1 s2.1 x2) fun l1=>some (.next (l1,wrap .i64 (s2.2+1)))) else (some (.done s2.1))) (r1,0)) fun o2=>some o2
theorem oT [AO] {slices A1 c1 r} (h:xQ slices=some r):
    AX Tryz.prog 76 [.slice A1 slices.length c1] [.ro (Sl (yL fY) A1 c1 slices)] (fun v F=>∃ A2 c2,v= .slice A2 r.length c2∧F= [.res (zD AP 5 A2 c2 r)]):=by
 refine AX.intro Tryz.func76 O O O fun w R=>?_;refine .ab [0] O<|.ae O<|.seq<|.ae O<|.bd h fun o1 hl1 h=>.cu 0 [0, .s 3 (.int .i64 o1)] [] O O ?_ ?_
 ·refine .block<|.BH hl1 0 (fun (s1:Int × Int) (e1:Unit)=>[0, .s 3 (.int .i64 s1.1),9,10, .s 11 (.int .i64 s1.2)]) (fun s1 e1=>[]) O O () (zb O) (fun _ w=>w) ?_;rintro s1 e1 st1 hm1 hd1 h1;refine .ae O<|.seq<|.cb h1 O (fun h1=>?_) (fun h1=>?_)
  ·refine .sk<|.pr [0,3,9,10,11] O<|.seq<|.block<|.seq<|.region<|.bd h1 fun x1 hx1 h1=>.RZ hx1 0 O fun b1 ED JD=>?_;obtain ⟨⟨A2,c2⟩,_⟩:=JD;refine .nm 3 O<|.ld ED 0 0 O<|.bf [0,3,5,9,10,11] [] 1 O O<|.EQ [0,3,9,10,11] [] 1 O O<|.ab [0,3,9,10,11,20] O<|.cb h1 O (fun h1=>?_) (fun h1=>?_)
   ·refine .region ?_;cases h1
   refine .skip<|.BF<|.AB<|.pr [0,3,9,10,11] O<|.region ?_;cases h1;exact .be O<|.ag () hm1 O zw
  refine .xq O ?_;cases h1;cases hd1 _ rfl
  exact .AB<|.hU O zw
 refine .a 1 O<|.bd h fun r1 hr1 h=>.cr 2 [] [] 0 (zXG hr1) zWL O fun A3 c3=>.b [0,6] O<|.seq<|.ab [6,25,26,27] O<|.bd h fun o2 hl2 h=>.DZ 2 (fun (e4:Option Addr × Nat)=>[.s 6 (.slice e4.1 o2.length e4.2)]) (fun e4=>[.res (zD AP 5 e4.1 e4.2 o2)]) O O ?_ ?_
 ·refine .block<|.BH hl2 1 (fun (s2:List Int × Int) (e3:Option Addr × Nat)=>[.s 6 (.slice e3.1 s2.1.length e3.2),25,26, .s 27 (.int .i64 s2.2)]) (fun s2 e3=>[.res (zD AP 5 e3.1 e3.2 s2.1)]) O O (A3,c3) (zb O) (fun _ w=>w) ?_;rintro s2 ⟨A4,c4⟩ st2 hm2 hd2 h2;refine .ae O<|.seq<|.cb h2 O (fun h2=>?_) (fun h2=>?_)
  ·refine .sk<|.pr [6,25,26,27] O<|.seq<|.block<|.seq<|.region<|.bd h2 fun x2 hx2 h2=>.RZ hx2 1 O fun b2 JA SN=>?_;obtain ⟨⟨A6,c6⟩,_⟩:=SN;refine .nm 4 O<|.ld JA 0 0 O<|.bf [6,8,25,26,27] [] 1 O O<|.region<|.n 2 O<|.bd h2 fun l1 hl1 h2=>.app (E:=AP) hl1 O O O (.s .z) O O O O O O O O (OB (.head _)) O O fun A7 c7=>.p O O<|.done<|.BF<|.AB<|.pf [6,25,26,27] [0] 1 O O<|.region ?_;cases h2;exact .be O<|.ag (A7,c7) hm2 O zw
  refine .xq O ?_;cases h2;cases hd2 _ rfl
  exact .AB<|.hE (A4,c4) O (zl [0] 1 O)
 rintro ⟨A5,c5⟩;refine .ab [2] O ?_;cases h;exact .rv O O ⟨A5,c5,O,O⟩ zw
theorem zVv:BV Tryz.prog 31:=en Tryz.func31 (by kernel_rfl)
def rR [AO] (DL:wA):Option (List Int):=
 bnd (sM DL) fun r1=>bnd ((bif r1.e0.CX then (bnd (xS r1.e0 0) fun r2=>bnd (app 1 ([]) r2) fun l1=>some (l1,wrap .u8 (wrap .i64 ((8:Int).tdiv 8)))) else (some ([],0)):Option (List Int × Int))) fun o1=>bnd ((bif r1.e1.CX then (bnd (xS r1.e1 1) fun r3=>bnd (app 1 o1.1 r3) fun l2=>some (l2,wrap .u8 (wrap .i64 ((wrap .i64 (8+(o1.1.length:Int))).tdiv 8)))) else (some (o1.1,0)):Option (List Int × Int))) fun o2=>bnd ((bif r1.e2.CX then (bnd (xS r1.e2 2) fun r4=>bnd (app 1 o2.1 r4) fun l3=>some (l3,wrap .u8 (wrap .i64 ((wrap .i64 (8+(o2.1.length:Int))).tdiv 8)))) else (some (o2.1,0)):Option (List Int × Int))) fun o3=>bif decide ((DL.Multi.length:Int)>0) then (bnd (tA ([1,0,o1.2,o2.2,o3.2,wrap .u8 (wrap .i64 ((wrap .i64 (8+(o3.1.length:Int))).tdiv 8)),0])) fun r5=>bnd (xQ ([r5,o3.1,DL.Multi])) fun r6=>some r6) else (bnd (tA ([1,0,o1.2,o2.2,o3.2,0,0])) fun r7=>bnd (xQ ([r7,o3.1,DL.Multi])) fun r8=>some r8)
theorem fR [AO] {DL A1 c1 A2 c2 A3 c3 A4 c4 r} (h:rR DL=some r):
    AX Tryz.prog 31 [.agg (jF DL A1 c1 A2 c2 A3 c3 A4 c4).toArray] [.ro (BP zP A1 c1 DL.CG.Fields), .ro (BP zP A2 c2 DL.Board.Fields), .ro (BP zP A3 c3 DL.Product.Fields), .ro (BP AP A4 c4 DL.Multi)] (fun v F=>∃ A5 c5,v= .slice A5 r.length c5∧F= [.res (zD AP 5 A5 c5 r)]):=by
 refine AX.intro Tryz.func31 O O O fun w R=>?_;refine .seq<|.region<|.box O O fun g1=>.b [1] O<|.seq<|.region<|.bS O fun g2=>.b [1,3] O<|.ae O<|.seq<|.seq<|.region<|.lb 0 1 O<|.bd h fun r1 hr1 h=>.call (dW hr1) zVx O O O (zd [2,3,4,5] [] 0 O) ?_;rintro _ _ ⟨A5,c5,A6,c6,A7,c7,rfl,rfl⟩;refine .nm 9 O<|.b [1,3,4,9,10] O<|.block<|.rounds 9<|.round<|.ae O<|.seq<|.EF O<|.sk<|.pr [1,3,4,9,10] O<|.seq<|.bd h fun o1 hj1 h=>.DZ 4 (fun (e1:Option Addr × Nat)=>[1,3, .s 4 (.slice e1.1 o1.1.length e1.2),9,10]) (fun e1=>[.res (zD AP 5 e1.1 e1.2 o1.1),0,1,2, .res (Box g2 5 [.int .u8 1, .int .u8 0, .int .u8 o1.2, .int .u8 0, .int .u8 0, .int .u8 0, .int .u8 0])]) O O ?_ ?_
 ·refine .block<|.a 2 O<|.alloc O O fun g3=>.p O O<|.sb 0 0 O<|.b [1,3,4,5,6,9,10] O<|.a 1 O<|.lb 0 0 O<|.b [1,3,4,5,6,9,10,15] O<|.cb hj1 O (fun hj1=>?_) (fun hj1=>?_)
  ·refine .a 8 O<|.TB 2 O O O O O O O O O O<|.sb 2 4 O<|.b [1,3,4,5,6,9,10] O<|.region<|.p O O<|.lb 0 1 O<|.p O O<|.bd hj1 fun r2 hr2 hj1=>.cr 11 [2] [] 0 (sY hr2) Jl O fun A9 c9=>.AQ (fun _ w=>w.CO)<|.AQ (fun _ w=>w.EH AP 5)<|.bd hj1 fun l1 hl1 hj1=>.app (E:=AP) hl1 O O O .z O O O O O O O O (OB EI) O O fun MR c10=>.p O O<|.done<|.BF ?_;cases hj1;exact .AB<|.hE (MR,c10) O (zl [0,3,3,3,1] 2 O)
  refine .skip<|.BF<|.AQ (fun _ w=>w.EH AP 5) ?_;cases hj1;exact .AB<|.hE (none,0) O (zl [0] 1 O)
 rintro ⟨A8,c8⟩;refine .region<|.be O<|.round<|.pr [1,3,4,9,10] O<|.ae O<|.seq<|.EF O<|.sk<|.pr [1,3,4,9,10] O<|.seq<|.bd h fun o2 hj2 h=>.DZ 5 (fun (e2:Option Addr × Nat)=>[1,3, .s 4 (.slice e2.1 o2.1.length e2.2),9,10]) (fun e2=>[.res (zD AP 5 e2.1 e2.2 o2.1),1,2,3, .res (Box g2 5 [.int .u8 1, .int .u8 0, .int .u8 o1.2, .int .u8 o2.2, .int .u8 0, .int .u8 0, .int .u8 0])]) O O ?_ ?_
 ·refine .block<|.a 2 O<|.alloc O O fun g4=>.p O O<|.sb 0 0 O<|.b [1,3,4,5,6,9,10] O<|.a 1 O<|.lb 0 0 O<|.b [1,3,4,5,6,9,10,15] O<|.cb hj2 O (fun hj2=>?_) (fun hj2=>?_)
  ·refine .a 8 O<|.TB 3 O O O O O O O O O O<|.sb 3 5 O<|.b [1,3,4,5,6,9,10] O<|.region<|.p O O<|.lb 0 1 O<|.p O O<|.bd hj2 fun r3 hr3 hj2=>.cr 12 [4] [] 0 (sY hr3) Jl O fun WE c12=>.AQ (fun _ w=>w.CO)<|.bd hj2 fun l2 hl2 hj2=>.app (E:=AP) hl2 O O O (FX 3 O) O O O O O O O O (OB (.head _)) O O fun MQ c13=>.p O O<|.done<|.BF ?_;cases hj2;exact .AB<|.hE (MQ,c13) O (zl [0,3,3,3,1] 2 O)
  refine .skip<|.BF ?_;cases hj2;exact .AB<|.hE (A8,c8) O (zl [] 1 O)
 rintro ⟨OQ,c11⟩;refine .region<|.be O<|.round<|.pr [1,3,4,9,10] O<|.ae O<|.seq<|.EF O<|.sk<|.pr [1,3,4,9,10] O<|.seq<|.bd h fun o3 hj3 h=>.DZ 5 (fun (e3:Option Addr × Nat)=>[1,3, .s 4 (.slice e3.1 o3.1.length e3.2),9,10]) (fun e3=>[.res (zD AP 5 e3.1 e3.2 o3.1),1,2,3, .res (Box g2 5 [.int .u8 1, .int .u8 0, .int .u8 o1.2, .int .u8 o2.2, .int .u8 o3.2, .int .u8 0, .int .u8 0])]) O O ?_ ?_
 ·refine .block<|.a 2 O<|.alloc O O fun g5=>.p O O<|.sb 0 0 O<|.b [1,3,4,5,6,9,10] O<|.a 1 O<|.lb 0 0 O<|.b [1,3,4,5,6,9,10,15] O<|.cb hj3 O (fun hj3=>?_) (fun hj3=>?_)
  ·refine .a 8 O<|.TB 4 O O O O O O O O O O<|.sb 4 5 O<|.b [1,3,4,5,6,9,10] O<|.region<|.p O O<|.lb 0 1 O<|.p O O<|.bd hj3 fun r4 hr4 hj3=>.cr 12 [5] [] 0 (sY hr4) Jl O fun PK c15=>.AQ (fun _ w=>w.CO)<|.bd hj3 fun l3 hl3 hj3=>.app (E:=AP) hl3 O O O (FX 3 O) O O O O O O O O (OB (.head _)) O O fun SK c16=>.p O O<|.done<|.BF ?_;cases hj3;exact .AB<|.hE (SK,c16) O (zl [0,3,3,3,1] 2 O)
  refine .skip<|.BF ?_;cases hj3;exact .AB<|.hE (OQ,c11) O (zl [] 1 O)
 rintro ⟨LD,c14⟩;refine .region<|.be O<|.round<|.pr [1,3,4,9,10] O<|.ae O<|.seq<|.FN O<|.xq O<|.AB<|.pf [1,3,4] [0] 3 O O<|.seq<|.a 1 O<|.lb 12 2 O<|.b [1,3,4,34] O<|.cb h O (fun h=>?_) (fun h=>?_)
 ·refine .region<|.n 6 O<|.TB 5 O O O O O O O O O O<|.sb 5 1 O<|.b [1,3,4] O<|.seq<|.BG (iN [0,8,12,16,7,23,27,28] .nil) _ mixed (by kernel_rfl) (zl [] 2 O)<|.yn 3 O<|.yl 12 0 O<|.BZ<|.AQ (fun _ w=>w.IB (E:=AP) (e:=5) [1,0,o1.2,o2.2,o3.2,wrap .u8 (wrap .i64 ((wrap .i64 (8+(o3.1.length:Int))).tdiv 8)),0] O O)<|.AQ (fun _ w=>w.CO)<|.bd h fun r5 JF h=>.cr 8 [0] [] 0 (kW JF) Vq O fun TJ c17=>.xk (zl [] 3 O)<|.BZ<|.bS O fun g6=>.xk (zl [] 4 O)<|.BZ<|.AQ (fun _ w=>(w.sl [1] 0 O).CO)<|.AQ (fun _ w=>(w.sl [3] 0 O).CO)<|.AQ (fun _ w=>Sat.XA (ls:=fY) (e:=29) [(r5,((TJ,c17),())),(o3.1,((LD,c14),())),(DL.Multi,((A4,c4),()))] O O O ⟨EI,(.head _),(zm 7 O),trivial⟩ (w.sl [2] 0 O))<|.AQ (fun _ w=>w.IZ)<|.bd h fun r6 KZ h=>.cr 10 [0] [] 0 (oT KZ) zUZ O fun VB c18=>.xk (zl [] 5 O)<|.yn 1 O<|.BX<|.AB<|.pf [2] [0] 9 O O ?_;cases h;exact .rv O O ⟨VB,c18,O,O⟩ zw
 refine .sk<|.pr [1,3,4] O<|.seq<|.BG (iN [0,8,12,16,7,23,27,28] .nil) _ mixed (by kernel_rfl) (zl [] 2 O)<|.yn 3 O<|.yl 12 0 O<|.BZ<|.AQ (fun _ w=>(w.sl [1] 0 O).IB (E:=AP) (e:=5) [1,0,o1.2,o2.2,o3.2,0,0] O O)<|.AQ (fun _ w=>w.CO)<|.bd h fun r7 PI h=>.cr 8 [0] [] 0 (kW PI) Vq O fun SL c19=>.xk (zl [] 3 O)<|.BZ<|.bS O fun g7=>.xk (zl [] 4 O)<|.BZ<|.AQ (fun _ w=>(w.sl [1] 0 O).CO)<|.AQ (fun _ w=>(w.sl [3] 0 O).CO)<|.AQ (fun _ w=>Sat.XA (ls:=fY) (e:=29) [(r7,((SL,c19),())),(o3.1,((LD,c14),())),(DL.Multi,((A4,c4),()))] O O O ⟨EI,(.head _),(zm 7 O),trivial⟩ (w.sl [2] 0 O))<|.AQ (fun _ w=>w.IZ)<|.bd h fun r8 SH h=>.cr 10 [0] [] 0 (oT SH) zUZ O fun VD c20=>.xk (zl [] 5 O)<|.yn 1 O<|.BX<|.AB<|.pf [2] [0] 9 O O ?_;cases h;exact .rv O O ⟨VD,c20,O,O⟩ zw
theorem zVd:BV Tryz.prog 30:=en Tryz.func30 (by kernel_rfl)
def qX [AO] (DL:wA):Option Bool:=
 bnd (sM DL) fun r1=>bnd (uN r1.e0 0) fun r2=>bif !r2 then (some false) else (bnd (uN r1.e1 1) fun r3=>bif !r3 then (some false) else (bnd (uN r1.e2 2) fun r4=>bif !r4 then (some false) else (bnd (rR DL) fun r5=>some (decide ((r5.length:Int)≤2048)))))
theorem dZ [AO] {DL A1 c1 A2 c2 A3 c3 A4 c4 r} (h:qX DL=some r):
    AX Tryz.prog 30 [.agg (jF DL A1 c1 A2 c2 A3 c3 A4 c4).toArray] [.ro (BP zP A1 c1 DL.CG.Fields), .ro (BP zP A2 c2 DL.Board.Fields), .ro (BP zP A3 c3 DL.Product.Fields), .ro (BP AP A4 c4 DL.Multi), .ro (BP xA (some ⟨0,0,none⟩) 3 ([2,5,7]:List Int))] (Val (.bool r)):=by
 refine AX.intro Tryz.func30 O O O fun w R=>?_;refine .seq<|.region<|.box O O fun g1=>.b [1] O<|.seq<|.seq<|.region<|.lb 0 0 O<|.bd h fun r1 hr1 h=>.call (dW hr1) zVx O O O (zd [1,2,3,4] [] 0 O) ?_;rintro _ _ ⟨A5,c5,A6,c6,A7,c7,rfl,rfl⟩;refine .nm 9 O<|.b [1,6,7] O<|.block<|.rounds 9<|.round<|.ae O<|.seq<|.EF O<|.sk<|.pr [1,6,7] O<|.seq<|.block<|.a 2 O<|.alloc O O fun g2=>.p O O<|.sb 0 0 O<|.b [1,3,4,6,7] O<|.seq<|.region<|.lb 0 0 O<|.p O O<|.bd h fun r2 hr2 h=>.cv [1,9] (oQ hr2) Vr O<|.bf [1,6,7,14] [] 1 O O<|.cb h O (fun h=>?_) (fun h=>?_)
 ·refine .EQ [2] [] 8 O O ?_;cases h;exact .rv O O ⟨O,O⟩ (zl [] 1 O)
 refine .skip<|.BF<|.AB<|.pr [1,6,7] O<|.region<|.be O<|.round<|.pr [1,6,7] O<|.ae O<|.seq<|.EF O<|.sk<|.pr [1,6,7] O<|.seq<|.block<|.a 2 O<|.alloc O O fun g3=>.p O O<|.sb 0 0 O<|.b [1,3,4,6,7] O<|.seq<|.region<|.lb 0 0 O<|.p O O<|.bd h fun r3 hr3 h=>.cv [2,9] (oQ hr3) Vr O<|.bf [1,6,7,14] [] 1 O O<|.cb h O (fun h=>?_) (fun h=>?_)
 ·refine .EQ [2] [] 8 O O ?_;cases h;exact .rv O O ⟨O,O⟩ (zl [] 1 O)
 refine .skip<|.BF<|.AB<|.pr [1,6,7] O<|.region<|.be O<|.round<|.pr [1,6,7] O<|.ae O<|.seq<|.EF O<|.sk<|.pr [1,6,7] O<|.seq<|.block<|.a 2 O<|.alloc O O fun g4=>.p O O<|.sb 0 0 O<|.b [1,3,4,6,7] O<|.seq<|.region<|.lb 0 0 O<|.p O O<|.bd h fun r4 hr4 h=>.cv [3,9] (oQ hr4) Vr O<|.bf [1,6,7,14] [] 1 O O<|.cb h O (fun h=>?_) (fun h=>?_)
 ·refine .EQ [2] [] 8 O O ?_;cases h;exact .rv O O ⟨O,O⟩ (zl [] 1 O)
 refine .skip<|.BF<|.AB<|.pr [1,6,7] O<|.region<|.be O<|.round<|.pr [1,6,7] O<|.ae O<|.seq<|.FN O<|.xq O<|.AB<|.pf [1] [] 3 O O<|.seq<|.region<|.lb 0 0 O<|.bd h fun r5 JF h=>.cr 7 [1,2,3,4] [] 0 (fR JF) zVv O fun A8 c8=>.bf [2] [] 6 O O ?_;cases h;exact .rv O O ⟨O,O⟩ (zl [] 1 O)
theorem zZf:BV Tryz.prog 8:=en Tryz.func8 (by kernel_rfl)
def tQ [AO] (DL:wA):Option ((List Int) × Int):=
 bnd (qX DL) fun r1=>bif !r1 then (some ([],1)) else (bnd (rR DL) fun r2=>some (r2,0))
theorem zCS [AO] {DL A1 c1 A2 c2 A3 c3 A4 c4 r} (h:tQ DL=some r):
    AX Tryz.prog 8 [.agg (jF DL A1 c1 A2 c2 A3 c3 A4 c4).toArray] [.ro (BP zP A1 c1 DL.CG.Fields), .ro (BP zP A2 c2 DL.Board.Fields), .ro (BP zP A3 c3 DL.Product.Fields), .ro (BP AP A4 c4 DL.Multi), .ro (BP xA (some ⟨0,0,none⟩) 3 ([2,5,7]:List Int))] (fun v F=>∃ A5 c5,v= .tuple #[.slice A5 r.1.length c5, .int .i64 r.2]∧F= [.res (zD AP 5 A5 c5 r.1)]):=by
 refine AX.intro Tryz.func8 O O O fun w R=>?_;refine .seq<|.region<|.box O O fun g1=>.b [1] O<|.seq<|.seq<|.region<|.lb 0 0 O<|.bd h fun r1 hr1 h=>.cv [1,2,3,4,5] (dZ hr1) zVd O<|.b [1,6] O<|.cb h O (fun h=>?_) (fun h=>?_)
 ·refine .EQ [2,3] [] 5 O O<|.AQ (fun _ w=>w.EH AP 5) ?_;cases h;exact .rv O O ⟨none,0,O,O⟩ (zl [0] 1 O)
 refine .sk<|.pr [1] O<|.seq<|.region<|.lb 0 0 O<|.bd h fun r2 hr2 h=>.cr 7 [1,2,3,4] [] 0 (fR hr2) zVv O fun A5 c5=>.bf [2,3] [0] 5 O O ?_;cases h;exact .rv O O ⟨A5,c5,O,O⟩ (zl [0] 1 O)
theorem zXc:BV Tryz.prog 119:=en Tryz.func119 (by kernel_rfl)
def rO (BA:(List Int)):Option (zB × Int × Bool):=
 bif decide ((BA.length:Int)<2) then (some ((⟨0, [],false⟩:zB),0,false)) else (bnd (AU BA 1) fun x1=>bif (x1==128) then (bnd (AU BA 0) fun x2=>some ((⟨x2, [],true⟩:zB),2,true)) else (bnd ((bif decide (x1>28) then (some true) else (some (decide ((BA.length:Int)<(wrap .i64 (2+(wrap .i64 x1)))))):Option Bool)) fun o1=>bif o1 then (some ((⟨0, [],false⟩:zB),0,false)) else (bnd (AU BA 0) fun x3=>bnd (sub BA 2 (wrap .i64 (2+(wrap .i64 x1)))) fun l1=>bnd (zR l1) fun r1=>some ((⟨x3,r1,false⟩:zB),wrap .i64 (2+(wrap .i64 x1)),true))))
theorem zDf {BA A1 c1 r} (h:rO BA=some r):
    AX Tryz.prog 119 [.slice A1 BA.length c1] [.ro (BP AP A1 c1 BA)] (fun v F=>∃ A2 c2,v= .tuple #[.agg #[.int .u8 r.1.Key, .slice A2 r.1.Value.length c2, .bool r.1.Delete], .int .i64 r.2.1, .bool r.2.2]∧F= [.ro (BP AP A2 c2 r.1.Value)]):=by
 refine AX.intro Tryz.func119 O O O fun w R=>?_;refine .seq<|.region<|.alloc O O fun g1=>.b [0,2] O<|.seq<|.block<|.ab [0,2,6] O<|.cb h O (fun h=>?_) (fun h=>?_)
 ·refine .a 1 O<|.sb 0 0 O<|.bf [2,3,4] [0] 1 O O<|.AQ (fun _ w=>w.CS (DC AP)) ?_;cases h;exact .rt O Tryz.results119 (.cell O EI O (.tmp O (.tmp O .nil))) O ⟨none,0,O,O⟩ (zk 1 2 [0] [] 0 O)
 refine .a 1 O<|.bd h fun x1 hx1 h=>.FB hx1 1 O fun b1 ED=>.ld ED 0 0 O<|.bf [0,2,11] [] 1 O O<|.cb h O (fun h=>?_) (fun h=>?_)
 ·refine .a 1 O<|.bd h fun x2 hx2 h=>.FB hx2 1 O fun b2 JA=>.ld JA 0 0 O<|.p O O<|.sb 0 1 O<|.bf [2,3,4] [0] 2 O O<|.AQ (fun _ w=>w.CS (DC AP)) ?_;cases h;exact .rt O Tryz.results119 (.cell O EI O (.tmp O (.tmp O .nil))) O ⟨none,0,O,O⟩ (zk 1 2 [0] [] 0 O)
 refine .skip<|.BF<|.AB<|.pr [0,2] O<|.a 1 O<|.FB hx1 1 O fun b3 JY=>.ld JY 0 0 O<|.bf [0,2,5] [] 1 O O<|.seq<|.seq<|.bd h fun o1 hj1 h=>.cu 0 [0,2,5, .s 34 (.bool o1)] [] O O ?_ ?_
 ·refine .region<|.p O O<|.FB hx1 1 O fun b4 KN=>.ld KN 0 0 O<|.n 2 O<|.gs 29 hj1 O (fun hj1=>?_) (fun hj1=>?_)
  ·cases hj1;exact .be O<|.hU O (zl [] 1 O)
  cases hj1;exact .be O<|.hU O (zl [] 1 O)
 refine .cb h O (fun h=>?_) (fun h=>?_)
 ·refine .a 1 O<|.sb 0 0 O<|.bf [2,3,4] [0] 1 O O<|.AQ (fun _ w=>w.CS (DC AP)) ?_;cases h;exact .rt O Tryz.results119 (.cell O EI O (.tmp O (.tmp O .nil))) O ⟨none,0,O,O⟩ (zk 1 2 [0] [] 0 O)
 refine .sk<|.pr [0,2,5] O<|.seq<|.BG (iN [0,4,8,12,16,21,32,27,28,39,40,44] .nil) _ mixed (by kernel_rfl) (zl [] 1 O)<|.yn 1 O<|.bd h fun x3 hx3 h=>.FV EI hx3 fun b5 NU QH=>.AQ (fun _ w=>Sat.EP QH EI hx3 w) ?_;have hc1:=fun w h=>Sat.EP QH (.head _) hx3 ((fun (w:World) (h:Sat (.ro (BP AP A1 c1 BA)::R) w)=>h) w h);refine .IG (fun _ h=>h) (Rd.LK (E:=AP) QH hx3 O O O O O O O) O<|.IG hc1 (Rd.load NU 0 O (.head _) O O) O<|.yn 2 O<|.bd h fun l1 hl1 h=>.LU (zm 2 O) hl1 fun A2 c2 hS1=>?_;have hc2:=fun w h=>Sat.QA hS1 EI hl1 (hc1 w h);refine .DR (Rd.sub hS1 hl1 (zm 3 O) O O O O O O O O) O<|.yn 1 O<|.BZ<|.bd h fun r1 hr1 h=>.cr 5 [0] [] 0 (xI hr1) YP O fun A3 c3=>.xk (zl [] 4 O)<|.yn 1 O<|.BZ<|.sb 0 3 O<|.xk (zl [] 4 O)<|.yn 2 O<|.BX<|.AB<|.pf [2,3,4] [0,0] 3 O O<|.AQ (fun _ w=>(w.sl [1] 0 O).CO) ?_;cases h;exact .rt O Tryz.results119 (.cell O EI O (.tmp O (.tmp O .nil))) O ⟨A3,c3,O,O⟩ (zk 1 2 [0] [] 0 O)
theorem zYQ:BV Tryz.prog 84:=en Tryz.func84 (by kernel_rfl)
def qR [AO] (BA:(List Int)):Option ((List zB) × Int × Bool):=
 bnd ((bif ((BA.length:Int)==0) then (some true) else (bnd (AU BA 0) fun x1=>bif decide (x1<1) then (some true) else (some (decide (x1>32)))):Option Bool)) fun o1=>bif o1 then (some ([],0,false)) else (bnd (AU BA 0) fun x2=>bnd (zI (τ:=((List zB) × Int × Bool) ⊕ (List zB × Int)) (fun (s1:List zB × Int × Int)=>bif decide (s1.2.2<x2) then (bnd (sub BA s1.2.1 (BA.length:Int)) fun l1=>bnd (rO l1) fun r1=>bif !r1.2.2 then (some (.done (.inl ([],0,false)))) else (bnd (app 40 s1.1 [r1.1]) fun l2=>some (.next (l2,wrap .i64 (s1.2.1+r1.2.1),wrap .u8 (s1.2.2+1))))) else (some (.done (.inr (s1.1,s1.2.1))))) ([],1,0)) fun o2=>wN o2 fun o3=>bnd ((bif (o3.2==(BA.length:Int)) then (some true) else (bnd (AU BA o3.2) fun x3=>some (x3 != 0)):Option Bool)) fun o4=>bif o4 then (some ([],0,false)) else (some (o3.1,wrap .i64 (o3.2+1),true)))
theorem zEd [AO] {BA A1 c1 r} (h:qR BA=some r):
    AX Tryz.prog 84 [.slice A1 BA.length c1] [.ro (BP AP A1 c1 BA)] (fun v F=>∃ A2 c2,v= .tuple #[.slice A2 r.1.length c2, .int .i64 r.2.1, .bool r.2.2]∧F= [.res (uD (yL yC) 140 A2 c2 r.1)]):=by
 refine AX.intro Tryz.func84 O O O fun w R=>?_;refine .ab [0] O<|.seq<|.seq<|.bd h fun o1 hj1 h=>.cu 0 [0, .s 24 (.bool o1)] [] O O ?_ ?_
 ·refine .region<|.n 4 O<|.gs 13 hj1 O (fun hj1=>?_) (fun hj1=>?_)
  ·cases hj1;exact .be O<|.hU O zw
  refine .n 1 O<|.BR O O<|.bd hj1 fun x1 hx1 hj1=>.FB hx1 0 O fun b1 ED=>.BR O O<|.ld ED 0 0 O<|.n 3 O<|.gs 19 hj1 O (fun hj1=>?_) (fun hj1=>?_)
  ·cases hj1;exact .be O<|.hU O (zl [] 1 O)
  refine .n 1 O<|.BR O O<|.FB hx1 1 O fun b2 JA=>.BR O O<|.ld JA 0 0 O ?_;cases hj1;exact .be O<|.hU O (zl [] 2 O)
 refine .cb h O (fun h=>?_) (fun h=>?_)
 ·refine .EQ [2,3,4] [] 1 O O<|.AQ (fun _ w=>w.LP (yL yC) 140) ?_;cases h;exact .rv O O ⟨none,0,O,O⟩ zw
 refine .sk<|.pr [0] O<|.ae O<|.ae O<|.seq<|.a 1 O<|.bd h fun x2 hx2 h=>.FB hx2 0 O fun b3 JY=>.ld JY 0 0 O<|.bf [0,5,6,27,28] [] 1 O O<|.AQ (fun _ w=>w.LP (yL yC) 140)<|.bd h fun o2 hl1 h=>.EJ 1 (fun (o3:List zB × Int) (e3:Option Addr × Nat)=>[0, .s 5 (.slice e3.1 o3.1.length e3.2), .s 6 (.int .i64 o3.2)]) (fun o3 e3=>[.res (uD (yL yC) 140 e3.1 e3.2 o3.1)]) O O (fun o3=>o2= .inr o3) ?_ ?_
 ·refine .block<|.BH hl1 1 (fun (s1:List zB × Int × Int) (e2:Option Addr × Nat)=>[0, .s 5 (.slice e2.1 s1.1.length e2.2), .s 6 (.int .i64 s1.2.1),27, .s 28 (.int .u8 s1.2.2)]) (fun s1 e2=>[.res (uD (yL yC) 140 e2.1 e2.2 s1.1)]) O O (none,0) (zb O) (fun _ w=>w) ?_;rintro s1 ⟨A2,c2⟩ st1 hm1 hd1 h1;refine .ae O<|.seq<|.cb h1 O (fun h1=>?_) (fun h1=>?_)
  ·refine .sk<|.pr [0,5,6,27,28] O<|.seq<|.block<|.a 2 O<|.bd h1 fun l1 hl1 h1=>.sub (E:=(DC AP)) O O EI O O O O O O O hl1 fun A4 c4=>.bd h1 fun r1 hr1 h1=>.cr 4 [0] [] 0 (zDf hr1) zXc O fun A5 c5=>.n 4 O<|.alloc O O fun g1=>.sb 0 0 O<|.bf [0,5,6,7,8,9,27,28] [0,0] 1 O O<|.seq<|.ab [0,5,6,7,8,27,28,39] O<|.cb h1 O (fun h1=>?_) (fun h1=>?_)
   ·refine .EQ [2,3,4] [] 4 O O<|.AQ (fun _ w=>w.LP (yL yC) 140) ?_;cases h1;cases hd1 _ rfl
    have h:some _=some _:=h;cases h;exact .rv O O ⟨none,0,O,O⟩ zw
   refine .sk<|.pr [0,5,6,7,8,27,28] O<|.region<|.p O O<|.lb 0 0 O<|.bS O fun g2=>.bd h1 fun l2 hl2 h1=>.NQ (E:=(yL yC)) hl2 O O O (FX 3 O) O O O O O O O O (zf (ls:=yC) [(r1.1,((A5,c5),()))] (.head _) O O O ⟨(zm 2 O),trivial⟩) O O fun A6 c6=>.n 5 O<|.done<|.BF<|.AB<|.pf [0,5,6,27,28] [0] 3 O O<|.region ?_;cases h1;exact .be O<|.ag (A6,c6) hm1 O zw
  refine .xq O ?_;cases h1;cases hd1 _ rfl
  exact .AB<|.DN (s1.1,s1.2.1) (A2,c2) O (zb O) zw
 rintro o3 ⟨A3,c3⟩ ho;subst ho;have h:=IV h;refine .seq<|.seq<|.bd h fun o4 hj2 h=>.cu 2 [5,6, .s 58 (.bool o4)] [0] O O ?_ ?_
 ·refine .region<|.n 5 O<|.gs 52 hj2 O (fun hj2=>?_) (fun hj2=>?_)
  ·cases hj2;exact .be O<|.hU O (zl [0] 1 O)
  refine .n 2 O<|.BR O O<|.bd hj2 fun x3 hx3 hj2=>.FB hx3 1 O fun b4 KN=>.BR O O<|.ld KN 0 0 O ?_;cases hj2;exact .be O<|.hU O (zl [1] 2 O)
 refine .cb h O (fun h=>?_) (fun h=>?_)
 ·refine .EQ [2,3,4] [] 1 O O<|.AQ (fun _ w=>w.LP (yL yC) 140) ?_;cases h;exact .rv O O ⟨none,0,O,O⟩ zw
 refine .sk<|.pr [5,6] O<|.ab [2,3,4] O ?_;cases h;exact .rv O O ⟨A3,c3,O,O⟩ zw
theorem zVm:BV Tryz.prog 49:=en Tryz.func49 (by kernel_rfl)
def wY [AO] (KO:(Option (List (Int × (List Int))))) (FP:(List zB)):Option (Option (List (Int × (List Int)))):=
 bnd (Rq KO) fun r1=>bnd (zI (τ:=(Option (List (Int × (List Int))))) (fun (s1:Int × (Option (List (Int × (List Int)))))=>bif decide (s1.1<(FP.length:Int)) then (bnd (AU FP s1.1) fun x1=>bif x1.Delete then (some (.next (wrap .i64 (s1.1+1),(s1.2.map fun l=>SB (xE .u8).eq l x1.Key)))) else (bnd (zR x1.Value) fun r2=>bnd (mapM s1.2) fun m1=>some (.next (wrap .i64 (s1.1+1),(some (pG (xE .u8).eq m1 x1.Key r2)))))) else (some (.done s1.2))) (0,r1)) fun o1=>some o1
theorem nV [AO] {KO FP A1 c1 M1 r} (h:wY KO FP=some r):
    AX Tryz.prog 49 [.map M1, .slice A1 FP.length c1] [.ro (Sl (yL yC) A1 c1 FP), .res (yZ (xE .u8) (DC AP) M1 KO)] (fun v F=>∃ M2,v= .map M2∧F= [.res (yZ (xE .u8) (DC AP) M1 KO), .res (yZ (xE .u8) (DC AP) M2 r)]):=by
 refine AX.intro Tryz.func49 O O O fun w R=>?_;refine .ab [0,1] O<|.a 1 O<|.bd h fun r1 hr1 h=>.call (zLQ hr1) zXV O O O (zl [1] 0 O) ?_;rintro _ _ ⟨M2,rfl,rfl⟩;refine .nm 3 O<|.b [1,5] O<|.seq<|.ab [5,10,11,12] O<|.bd h fun o1 hl1 h=>.DZ 3 (fun (e2:Option Nat)=>[.s 5 (.map e2)]) (fun e2=>[.res (yZ (xE .u8) (DC AP) e2 o1),0]) O O ?_ ?_
 ·refine .block<|.BH hl1 2 (fun (s1:Int × (Option (List (Int × (List Int))))) (e1:Option Nat)=>[.s 5 (.map e1),10,11, .s 12 (.int .i64 s1.1)]) (fun s1 e1=>[.res (yZ (xE .u8) (DC AP) e1 s1.2),0]) O O M2 (zb O) (zl [1] 0 O) ?_;rintro s1 M3 st1 hm1 hd1 h1;refine .ae O<|.seq<|.cb h1 O (fun h1=>?_) (fun h1=>?_)
  ·refine .sk<|.pr [5,10,11,12] O<|.seq<|.block<|.seq<|.region<|.bd h1 fun x1 hx1 h1=>.RZ hx1 2 O fun b1 ED JD=>?_;obtain ⟨⟨A2,c2⟩,_⟩:=JD;refine .nm 5 O<|.ld ED 0 0 O<|.alloc O O fun g1=>.sb 0 0 O<|.bf [5,7,10,11,12] [0] 1 O O<|.a 1 O<|.lb 2 0 O<|.b [5,7,10,11,12,17] O<|.cb h1 O (fun h1=>?_) (fun h1=>?_)
   ·refine .region<|.n 2 O<|.lb 0 0 O<|.OI (K:=(xE .u8)) x1.Key O O (FX 2 O) O O O O O<|.done<|.BF<|.AB<|.pf [5,10,11,12] [0] 2 O O<|.region ?_;cases h1;exact .be O<|.ag M3 hm1 O zw
   refine .BG (iN [0,4,8,12,17,23,27] .nil) _ mixed (by kernel_rfl) (zl [0,0] 1 O)<|.yn 2 O<|.yl 0 0 O<|.yn 1 O<|.yx 1 0 O<|.BZ<|.bd h1 fun r2 hr2 h1=>.cr 6 [1] [] 0 (xI hr2) YP O fun A3 c3=>.xk (zl [1,1] 2 O)<|.BZ<|.AQ (fun _ w=>w.CO)<|.bd h1 fun m1 hm1 h1=>.QC (K:=(xE .u8)) hm1 x1.Key O O O O (FX 3 O) (.head _) O O O O<|.xk (zl [] 2 O)<|.BX<|.BF<|.AB<|.pf [5,10,11,12] [0] 3 O O<|.region ?_;cases h1;exact .be O<|.ag M3 hm1 O zw
  refine .xq O ?_;cases h1;cases hd1 _ rfl
  exact .AB<|.hE M3 O (zl [0,0] 1 O)
 rintro M4;refine .ab [4] O ?_;cases h;exact .rv O O ⟨M4,O,O⟩ (zl [1] 0 O)
theorem zWP:BV Tryz.prog 121:=en Tryz.func121 (by kernel_rfl)
def sU (CU:Int):Option Bool:=
 some (CU != 255)
theorem zBN {CU r} (h:sU CU=some r):
    AX Tryz.prog 121 [.int .u8 CU] [] (Val (.bool r)):=by
 unfold sU at h
 refine AX.intro Tryz.func121 O O O fun w R=>?_;refine .ab [0] O<|.ab [2] O ?_;cases h;exact .rv O O ⟨O,O⟩ zw
def uJ [AO] (AL:(List Int)):Option Int:=
 bnd (zI (τ:=Int ⊕ Unit) (fun (s1:Int)=>bif decide (s1<(AL.length:Int)) then (bnd (AU AL s1) fun x1=>bnd (sU x1) fun r1=>bif r1 then (some (.done (.inl s1))) else (some (.next (wrap .i64 (s1+1))))) else (some (.done (.inr ())))) 0) fun o1=>wN o1 fun o2=>some (-1)
theorem mP [AO] {AL A1 c1 r} (h:uJ AL=some r):
    AX Tryz.prog 157 [.slice A1 AL.length c1, .func (.func 121) #[] #[]] [.ro (BP AP A1 c1 AL)] (Val (.int .i64 r)):=by
 refine AX.intro Tryz.func157 O O O fun w R=>?_;refine .ab [0,1] O<|.seq<|.ab [0,1,7,8] O<|.bd h fun o1 hl1 h=>.EJ 1 (fun (o2:Unit) (e2:Unit)=>[]) (fun o2 e2=>[]) O O (fun o2=>o1= .inr o2) ?_ ?_
 ·refine .block<|.BH hl1 0 (fun (s1:Int) (e1:Unit)=>[0,1,7, .s 8 (.int .i64 s1)]) (fun s1 e1=>[]) O O () (zb O) (fun _ w=>w) ?_;rintro s1 e1 st1 hm1 hd1 h1;refine .ae O<|.seq<|.cb h1 O (fun h1=>?_) (fun h1=>?_)
  ·refine .sk<|.pr [0,1,7,8] O<|.seq<|.block<|.ab [0,1,5,7,8] O<|.a 3 O<|.bd h1 fun x1 hx1 h1=>.FB hx1 0 O fun b1 ED=>.ld ED 0 0 O<|.bd h1 fun r1 hr1 h1=>.cv [] (zBN hr1) zWP O<|.bf [0,1,5,7,8,16] [] 1 O O<|.cb h1 O (fun h1=>?_) (fun h1=>?_)
   ·refine .EQ [4] [] 1 O O ?_;cases h1;cases hd1 _ rfl
    have h:some _=some _:=h;cases h;exact .rv O O ⟨O,O⟩ zw
   refine .skip<|.BF<|.AB<|.pr [0,1,7,8] O<|.region ?_;cases h1;exact .be O<|.ag () hm1 O zw
  refine .xq O ?_;cases h1;cases hd1 _ rfl
  exact .AB<|.DN () () O trivial (zl [] 1 O)
 rintro o2 e2 ho;subst ho;have h:=IV h;refine .ae O ?_;cases h;exact .rv O O ⟨O,O⟩ zw
def vT [AO] (AL:(List Int)):Option Bool:=
 bnd (uJ AL) fun r1=>some (decide (r1≥0))
theorem nC [AO] {AL A1 c1 r} (h:vT AL=some r):
    AX Tryz.prog 120 [.slice A1 AL.length c1, .func (.func 121) #[] #[]] [.ro (BP AP A1 c1 AL)] (Val (.bool r)):=by
 refine AX.intro Tryz.func120 O O O fun w R=>?_;refine .ab [0,1] O<|.a 2 O<|.bd h fun r1 hr1 h=>.cv [0] (mP hr1) Vd O<|.bf [4] [] 1 O O ?_;cases h;exact .rv O O ⟨O,O⟩ zw
theorem zVh:BV Tryz.prog 85:=en Tryz.func85 (by kernel_rfl)
def sN [AO] (BA:(List Int)):Option Bool:=
 bnd (vT BA) fun r1=>some (!r1)
theorem cI [AO] {BA A1 c1 r} (h:sN BA=some r):
    AX Tryz.prog 85 [.slice A1 BA.length c1] [.ro (BP AP A1 c1 BA)] (Val (.bool r)):=by
 refine AX.intro Tryz.func85 O O O fun w R=>?_;refine .ab [0] O<|.a 1 O<|.bd h fun r1 hr1 h=>.cv [0] (nC hr1) Ve O<|.bf [2] [] 1 O O ?_;cases h;exact .rv O O ⟨O,O⟩ zw
theorem zYe:BV Tryz.prog 38:=en Tryz.func38 (by kernel_rfl)
def rJ [AO] (BA:(List Int)):Option (uO × Bool):=
 bnd (AU BA 0) fun x1=>bnd (AU BA 1) fun x2=>bnd (AU BA 2) fun x3=>bnd (AU BA 3) fun x4=>bnd ((bnd (AU BA 4) fun x5=>bif (x5 != 0) then (some true) else (bif decide ((CZ .i64 (CZ .i64 (CZ .i64 (wrap .i64 x1) (yM .i64 (wrap .i64 x2) 8)) (yM .i64 (wrap .i64 x3) 16)) (yM .i64 (wrap .i64 x4) 24))<1) then (some true) else (some (decide ((CZ .i64 (CZ .i64 (CZ .i64 (wrap .i64 x1) (yM .i64 (wrap .i64 x2) 8)) (yM .i64 (wrap .i64 x3) 16)) (yM .i64 (wrap .i64 x4) 24))>2147483648)))):Option Bool)) fun o1=>bif o1 then (some ((⟨0,none,0,false⟩:uO),false)) else (bnd (zI (τ:=uO) (fun (s1:uO)=>bnd (sub BA s1.tail (BA.length:Int)) fun l1=>bnd (qR l1) fun r1=>bif !r1.2.2 then (some (.done s1)) else (bnd (wY s1.all r1.1) fun r2=>bif decide ((((r2.getD []).length:Nat):Int)>32) then (some (.done s1)) else (some (.next (⟨s1.generation,r2,wrap .i64 (s1.tail+r1.2.1),s1.clean⟩:uO))))) (⟨CZ .i64 (CZ .i64 (CZ .i64 (wrap .i64 x1) (yM .i64 (wrap .i64 x2) 8)) (yM .i64 (wrap .i64 x3) 16)) (yM .i64 (wrap .i64 x4) 24),(some []),5,false⟩:uO)) fun o2=>bnd (sub BA o2.tail (BA.length:Int)) fun l2=>bnd (sN l2) fun r3=>some ((⟨o2.generation,o2.all,o2.tail,r3⟩:uO),true))
theorem zFf [AO] {BA A1 c1 r} (h:rJ BA=some r):
    AX Tryz.prog 38 [.slice A1 BA.length c1] [.ro (BP AP A1 c1 BA)] (fun v F=>∃ M1,v= .tuple #[.agg (Un r.1 M1).toArray, .bool r.2]∧F= [.res (yZ (xE .u8) (DC AP) M1 r.1.all)]):=by
 refine AX.intro Tryz.func38 O O O fun w R=>?_;refine .seq<|.region<|.alloc O O fun g1=>.b [0,2] O<|.seq<|.regionF mixed (by kernel_rfl)<|.p O O<|.bd h fun x1 hx1 h=>.FB hx1 1 O fun b1 ED=>.ld ED 0 0 O<|.n 2 O<|.bd h fun x2 hx2 h=>.FB hx2 2 O fun b2 JA=>.ld JA 0 0 O<|.n 4 O<|.bd h fun x3 hx3 h=>.FB hx3 3 O fun b3 JY=>.ld JY 0 0 O<|.n 4 O<|.bd h fun x4 hx4 h=>.FB hx4 4 O fun b4 KN=>.ld KN 0 0 O<|.beq O<|.pf [0,2,4] [] 4 O O<|.seq<|.seq<|.bd h fun o1 hj1 h=>.cu 0 [0,2,4, .s 43 (.bool o1)] [] O O ?_ ?_
 ·refine .region<|.p O O<|.bd hj1 fun x5 hx5 hj1=>.FB hx5 1 O fun b5 NU=>.ld NU 0 0 O<|.n 2 O<|.gs 36 hj1 O (fun hj1=>?_) (fun hj1=>?_)
  ·cases hj1;exact .be O<|.hU O (zl [] 1 O)
  refine .n 4 O<|.gs 40 hj1 O (fun hj1=>?_) (fun hj1=>?_)
  ·cases hj1;exact .be O<|.hU O (zl [] 1 O)
  cases hj1;exact .be O<|.hU O (zl [] 1 O)
 refine .cb h O (fun h=>?_) (fun h=>?_)
 ·refine .a 1 O<|.sb 0 0 O<|.bf [2,3] [0] 1 O O<|.AQ (fun _ w=>w.SC (xE .u8) (DC AP)) ?_;cases h;exact .rt O Tryz.results38 (.cell O EI O (.tmp O .nil)) O ⟨none,O,O⟩ (zl [0] 1 O)
 refine .sk<|.pr [0,2,4] O<|.a 1 O<|.OH (K:=(xE .u8)) (E:=(DC AP)) O fun g2=>.p O O<|.alloc O O fun g3=>.sb 0 0 O<|.b [0,2,5] O<|.seq<|.bd h fun o2 hl1 h=>.DZ 2 (fun (e3:Option Nat)=>[0,2,5]) (fun e3=>[.res (yZ (xE .u8) (DC AP) e3 o2.all), .res (Box g3 119 (Un o2 e3))]) O O ?_ ?_
 ·refine .block<|.BH hl1 2 (fun (s1:uO) (e2:Option Nat)=>[0,2,5]) (fun s1 e2=>[.res (yZ (xE .u8) (DC AP) e2 s1.all), .res (Box g3 119 (Un s1 e2))]) O O (some g2) (zb O) (zl [1] 0 O) ?_;rintro s1 M1 st1 hm1 hd1 h1;refine .block<|.a 2 O<|.lb 2 1 O<|.bd h1 fun l1 hl1 h1=>.sub (E:=(DC AP)) O O (zm 3 O) O O O O O O O hl1 fun A2 c2=>.bd h1 fun r1 hr1 h1=>.cr 6 [0] [] 0 (zEd hr1) zYQ O fun A3 c3=>.bf [0,2,5,6,7,8] [0] 1 O O<|.seq<|.ab [0,2,5,6,7,58] O<|.cb h1 O (fun h1=>?_) (fun h1=>?_)
  ·refine .xq O ?_;cases h1;cases hd1 _ rfl
   exact .AB<|.hE M1 O (zl [] 1 O)
  refine .sk<|.pr [0,2,5,6,7] O<|.a 1 O<|.lb 1 2 O<|.p O O<|.AQ (fun _ w=>w.IZ)<|.bd h1 fun r2 hr2 h1=>.call (nV hr2) zVm O O O (zd [1] [1] 0 O) ?_;rintro _ _ ⟨M3,rfl,rfl⟩;refine .nm 6 O<|.bf [0,2,5,7,9] [0,0] 1 O O<|.seq<|.a 1 O<|.NS (K:=(xE .u8)) (E:=(DC AP)) O O EI O O O<|.b [0,2,5,7,9,65] O<|.cb h1 O (fun h1=>?_) (fun h1=>?_)
  ·refine .xq O ?_;cases h1;cases hd1 _ rfl
   exact .AB<|.hE M1 O (zl [0] 1 O)
  refine .sk<|.pr [0,2,5,7,9] O<|.region<|.n 2 O<|.lb 2 2 O<|.n 3 O<|.sb 1 2 O<|.p O O<|.sb 2 0 O<|.done<|.BF ?_;cases h1;exact .AB<|.ag M3 hm1 O (zl [2,0] 1 O)
 rintro M2;refine .a 2 O<|.lb 2 1 O<|.bd h fun l2 hl2 h=>.sub (E:=(DC AP)) O O (zm 3 O) O O O O O O O hl2 fun A4 c4=>.bd h fun r3 hr3 h=>.cv [0] (cI hr3) zVh O<|.p O O<|.sb 3 2 O<|.bf [2,5] [0,1,1] 2 O O<|.seq<|.region<|.lb 0 0 O<|.sb 0 2 O<|.bf [2,3] [0] 1 O O ?_;cases h;exact .rt O Tryz.results38 (.cell O (.head _) O (.tmp O .nil)) O ⟨M2,O,O⟩ (zl [] 1 O)
theorem Vs:BV Tryz.prog 15:=en Tryz.func15 (by kernel_rfl)
def wX [AO] (BD:zA) (first:Int):Option (zA × (Option yD) × Int):=
 bnd ((bif decide (first<0) then (some true) else (bnd (vO BD) fun r1=>some (decide (first>(wrap .i64 (r1 - 2))))):Option Bool)) fun o1=>bif o1 then (some (BD,none,2)) else (bnd (zK BD) fun r2=>bif decide (r2<1024) then (some (BD,none,3)) else (bnd (zI (τ:=(zA × (Option yD) × Int) ⊕ (yD × zA)) (fun (s1:yD × zA × Int)=>bif decide (s1.2.2<2) then (bnd (zK s1.2.1) fun r3=>bnd (zK s1.2.1) fun r4=>bnd (xU s1.2.1 (wrap .i64 ((wrap .i64 (first+s1.2.2))*r3)) r4) fun r5=>bif (r5.2.2 != 0) then (some (.done (.inl (r5.1,none,r5.2.2)))) else (bnd (rJ r5.2.1) fun r6=>bnd ((bif r6.2 then (some (decide (r6.1.generation>s1.1.generation))) else (some false):Option Bool)) fun o4=>bif o4 then (some (.next ((⟨s1.1.d,s1.1.first,s1.2.2,r6.1.generation,r6.1.all,r6.1.tail,r6.1.clean,s1.1.ended⟩:yD),r5.1,wrap .i64 (s1.2.2+1)))) else (some (.next (s1.1,r5.1,wrap .i64 (s1.2.2+1)))))) else (some (.done (.inr (s1.1,s1.2.1))))) ((⟨true,first,(-1),0,(some []),0,false,false⟩:yD),BD,0)) fun o2=>wN o2 fun o3=>some (o3.2,(some o3.1),0)))
theorem iC [AO] {BD first A1 c1 A2 c2 BN r} (h:wX BD first=some r):
    AX Tryz.prog 15 [.pointer (some ⟨BN,0,none⟩), .int .i64 first] [.res (Box BN 112 (zJ BD A1 c1 A2 c2)), .res (zD AP 5 A1 c1 BD.bytes), .res (zD xA 3 A2 c2 BD.AY)] (ZY r.2.1 (fun v F=>∃ A3 c3 A4 c4,v= .tuple #[.pointer none, .int .i64 r.2.2]∧F= [.res (Box BN 112 (zJ r.1 A3 c3 A4 c4)), .res (zD AP 5 A3 c3 r.1.bytes), .res (zD xA 3 A4 c4 r.1.AY)]) (fun q_ v F=>∃ g1 A3 c3 A4 c4 M1,v= .tuple #[.pointer (some ⟨g1,0,none⟩), .int .i64 r.2.2]∧F= [.res (Box BN 112 (zJ r.1 A3 c3 A4 c4)), .res (zD AP 5 A3 c3 r.1.bytes), .res (zD xA 3 A4 c4 r.1.AY), .res (Box g1 116 (pM q_ BN M1)), .res (yZ (xE .u8) (DC AP) M1 q_.all)])):=by
 refine AX.intro Tryz.func15 O O O fun w R=>?_;refine .ab [0,1] O<|.seq<|.block<|.seq<|.bd h fun o1 hj1 h=>.cu 0 [0,1, .s 12 (.bool o1)] [] O O ?_ ?_
 ·refine .region<|.n 3 O<|.gs 15 hj1 O (fun hj1=>?_) (fun hj1=>?_)
  ·cases hj1;exact .be O<|.hU O zw
  refine .n 2 O<|.BR O O<|.bd hj1 fun r1 hr1 hj1=>.cq 3 [] [] 0 (pO hr1) Vb O ?_;cases hj1;exact .be O<|.hU O zw
 refine .cb h O (fun h=>?_) (fun h=>?_)
 ·refine .ab [4,5] O ?_;cases h;exact .rv O O (cL ⟨A1,c1,A2,c2,O,O⟩) zw
 refine .a 1 O<|.bd h fun r2 hr2 h=>.cq 3 [] [] 0 (yR hr2) dK O<|.b [0,1,22] O<|.cb h O (fun h=>?_) (fun h=>?_)
 ·refine .ab [4,5] O ?_;cases h;exact .rv O O (cL ⟨A1,c1,A2,c2,O,O⟩) zw
 refine .skip<|.BF<|.AB<|.pr [0,1] O<|.a 2 O<|.OH (K:=(xE .u8)) (E:=(DC AP)) O fun g1=>.p O O<|.box O O fun g2=>.b [0,1,6] O<|.seq<|.ae O<|.bd h fun o2 hl1 h=>.EJ 5 (fun (o3:yD × zA) (e3:Option Nat × Option Addr × Nat × Option Addr × Nat)=>[6]) (fun o3 e3=>[.res (zD xA 3 e3.2.2.2.1 e3.2.2.2.2 o3.2.AY), .res (zD AP 5 e3.2.1 e3.2.2.1 o3.2.bytes), .res (yZ (xE .u8) (DC AP) e3.1 o3.1.all), .res (Box g2 116 (pM o3.1 BN e3.1)), .res (Box BN 112 (zJ o3.2 e3.2.1 e3.2.2.1 e3.2.2.2.1 e3.2.2.2.2))]) O O (fun o3=>o2= .inr o3) ?_ ?_
 ·refine .block<|.BH hl1 5 (fun (s1:yD × zA × Int) (e2:Option Nat × Option Addr × Nat × Option Addr × Nat)=>[0,1,6, .s 31 (.int .i64 s1.2.2)]) (fun s1 e2=>[.res (zD xA 3 e2.2.2.2.1 e2.2.2.2.2 s1.2.1.AY), .res (zD AP 5 e2.2.1 e2.2.2.1 s1.2.1.bytes), .res (yZ (xE .u8) (DC AP) e2.1 s1.1.all), .res (Box g2 116 (pM s1.1 BN e2.1)), .res (Box BN 112 (zJ s1.2.1 e2.2.1 e2.2.2.1 e2.2.2.2.1 e2.2.2.2.2))]) O O ((some g1),A1,c1,A2,c2) (zb O) (zl [4,3,1] 0 O) ?_;rintro s1 ⟨M1,A3,c3,A4,c4⟩ st1 hm1 hd1 h1;refine .ae O<|.seq<|.cb h1 O (fun h1=>?_) (fun h1=>?_)
  ·refine .sk<|.pr [0,1,6,31] O<|.seq<|.block<|.ab [0,1,6,7,31] O<|.a 5 O<|.bd h1 fun r3 hr3 h1=>.cq 5 [] [4,1] 0 (yR hr3) dK O<|.n 2 O<|.bd h1 fun r4 hr4 h1=>.cq 5 [] [] 0 (yR hr4) dK O<|.bd h1 fun r5 JF h1=>.call (qI JF) Jj O O O (fun _ w=>w) ?_;rintro _ _ ⟨A7,c7,A8,c8,A9,c9,rfl,rfl⟩;refine .nm 6 O<|.b [0,1,6,7,8,9,31] O<|.seq<|.ab [0,1,6,7,8,9,31,48] O<|.cb h1 O (fun h1=>?_) (fun h1=>?_)
   ·refine .EQ [4,5] [0,0,0] 3 O O ?_;cases h1;cases hd1 _ rfl
    have h:some _=some _:=h;cases h;exact .rv O O (cL ⟨A7,c7,A8,c8,O,O⟩) zw
   refine .sk<|.pr [0,1,6,7,8,31] O<|.a 1 O<|.AQ (fun _ w=>(w.sl [3] 0 O).CO)<|.bd h1 fun r6 KZ h1=>.call (zFf KZ) zYe O O O (zd [0] [] 0 O) ?_;rintro _ _ ⟨M3,rfl,rfl⟩;refine .nm 7 O<|.n 3 O<|.alloc O O fun g3=>.sb 0 0 O<|.bf [0,1,6,7,10,11,31] [0,0] 1 O O<|.seq<|.bd h1 fun o4 hj2 h1=>.cu 0 [0,1,6,7,10,31, .s 64 (.bool o4)] [] O O ?_ ?_
   ·refine .regionF mixed (by kernel_rfl)<|.n 2 O<|.gs 56 hj2 O (fun hj2=>?_) (fun hj2=>?_)
    ·refine .n 1 O<|.BR O O<|.lb 0 0 O<|.n 3 O<|.BR O O<|.lb 3 6 O ?_;cases hj2;exact .beq O<|.hU O zw
    cases hj2;exact .beq O<|.hU O zw
   refine .cb h1 O (fun h1=>?_) (fun h1=>?_)
   ·refine .BG (iN [0,4,8,12,16,20,24,28,32,36,40,44,48,52,56,60,67,68,72,79,80,84,91,92,96,103,104,108,115] .nil) _ mixed (by kernel_rfl) (zl [0,0,0,0,0,0] 1 O)<|.yn 7 O<|.yl 0 0 O<|.yn 1 O<|.yl 1 0 O<|.yn 1 O<|.yl 2 0 O<|.yn 1 O<|.yl 3 0 O<|.yn 2 O<|.BZ<|.sb 2 6 O<|.xk (zl [] 1 O)<|.yn 2 O<|.BZ<|.sb 3 0 O<|.xk (zl [] 1 O)<|.yn 2 O<|.BZ<|.sb 4 0 O<|.xk (zl [] 1 O)<|.yn 2 O<|.BZ<|.sb 5 0 O<|.xk (zl [] 1 O)<|.yn 2 O<|.BZ<|.sb 6 0 O<|.xk (zl [] 1 O)<|.BX<|.BF<|.AB<|.pf [0,1,6,31] [0,1,1,1,1] 2 O O<|.region ?_;cases h1;exact .be O<|.ag (M3,A7,c7,A8,c8) hm1 O (zl [4,3,1] 0 O)
   refine .skip<|.BF<|.AB<|.pf [0,1,6,31] [] 2 O O<|.region ?_;cases h1;exact .be O<|.ag (M1,A7,c7,A8,c8) hm1 O (zl [2,1,1,1] 0 O)
  refine .xq O ?_;cases h1;cases hd1 _ rfl
  exact .AB<|.DN (s1.1,s1.2.1) (M1,A3,c3,A4,c4) O (zb O) zw
 rintro o3 ⟨M2,A5,c5,A6,c6⟩ ho;subst ho;have h:=IV h;refine .ab [4,5] O ?_;cases h;exact .rv O O (Rj ⟨g2,A5,c5,A6,c6,M2,O,O⟩) (zl [4,1,0,1] 0 O)
theorem Jm:BV Tryz.prog 41:=en Tryz.func41 (by kernel_rfl)
def wK (slot:Int):Option Bool:=
 bnd ((bif decide (slot≥0) then (some (decide (slot<16))) else (some false):Option Bool)) fun o1=>some o1
theorem qJ {slot r} (h:wK slot=some r):
    AX Tryz.prog 41 [.int .i64 slot] [] (Val (.bool r)):=by
 refine AX.intro Tryz.func41 O O O fun w R=>?_;refine .ab [0] O<|.seq<|.bd h fun o1 hj1 h=>.cu 0 [.s 2 (.bool o1)] [] O O ?_ ?_
 ·refine .region<|.n 3 O<|.gs 5 hj1 O (fun hj1=>?_) (fun hj1=>?_)
  ·cases hj1;exact .be O<|.hU O zw
  cases hj1;exact .be O<|.hU O zw
 cases h;exact .rv O O ⟨O,O⟩ zw
theorem zXZ:BV Tryz.prog 42:=en Tryz.func42 (by kernel_rfl)
def nG [AO] (BA:(List Int)):Option Int:=
 bnd (zI (τ:=Int) (fun (s1:Int × Int)=>bif decide (s1.2<(BA.length:Int)) then (bnd (AU BA s1.2) fun x1=>bnd (zI (τ:=Int) (fun (s2:Int × Int)=>bif decide (s2.2<8) then (some (.next (lI .u32 (xP .u32 s2.1 1) (wrap .u32 ((vL .u32 s2.1 1)*3988292384)),wrap .i64 (s2.2+1)))) else (some (.done s2.1))) (lI .u32 s1.1 (wrap .u32 x1),0)) fun o2=>some (.next (o2,wrap .i64 (s1.2+1)))) else (some (.done s1.1))) (4294967295,0)) fun o1=>some (lI .u32 (if IntKind.signed .u32 then -1 else IntKind.max .u32) o1)
theorem zDV [AO] {BA A1 c1 r} (h:nG BA=some r):
    AX Tryz.prog 42 [.slice A1 BA.length c1] [.ro (BP AP A1 c1 BA)] (Val (.int .u32 r)):=by
 refine AX.intro Tryz.func42 O O O fun w R=>?_;refine .ab [0] O<|.ae O<|.seq<|.ab [3,7,8,9] O<|.bd h fun o1 hl1 h=>.cu 1 [.s 3 (.int .u32 o1)] [] O O ?_ ?_
 ·refine .block<|.BH hl1 0 (fun (s1:Int × Int) (e1:Unit)=>[.s 3 (.int .u32 s1.1),7,8, .s 9 (.int .i64 s1.2)]) (fun s1 e1=>[]) O O () (zb O) (fun _ w=>w) ?_;rintro s1 e1 st1 hm1 hd1 h1;refine .ae O<|.seq<|.cb h1 O (fun h1=>?_) (fun h1=>?_)
  ·refine .sk<|.pr [3,7,8,9] O<|.seq<|.block<|.seq<|.region<|.bd h1 fun x1 hx1 h1=>.FB hx1 0 O fun b1 ED=>.ld ED 0 0 O<|.bf [3,5,7,8,9] [] 1 O O<|.ab [3,7,8,9] O<|.ae O<|.bd h1 fun o2 hl2 h1=>.DV<|.cu 0 [.s 3 (.int .u32 o2),7,8,9] [] O O ?_ ?_
   ·refine .block<|.BH hl2 0 (fun (s2:Int × Int) (e3:Unit)=>[.s 3 (.int .u32 s2.1),7,8,9, .s 17 (.int .i64 s2.2)]) (fun s2 e3=>[]) O O () (zb O) (fun _ w=>w) ?_;rintro s2 e3 st2 hm2 hd2 h2;refine .ae O<|.seq<|.cb h2 O (fun h2=>?_) (fun h2=>?_)
    ·refine .sk<|.pr [3,7,8,9,17] O<|.seq<|.block<|.ab [3,6,7,8,9,17] O<|.region<|.n 6 O<|.done<|.BF<|.AB<|.pr [3,7,8,9,17] O<|.region ?_;cases h2;exact .be O<|.ag () hm2 O zw
    refine .xq O ?_;cases h2;cases hd2 _ rfl
    exact .AB<|.hU O zw
   refine .BF<|.AB<|.region ?_;cases h1;exact .be O<|.ag () hm1 O zw
  refine .xq O ?_;cases h1;cases hd1 _ rfl
  exact .AB<|.hU O (zl [] 1 O)
 refine .ab [2] O ?_;cases h;exact .rv O O ⟨O,O⟩ zw
theorem zWh:BV Tryz.prog 123:=en Tryz.func123 (by kernel_rfl)
def nE [AO] (BA:(List Int)):Option ((List Int) × Int):=
 bif ((BA.length:Int)==0) then (some ([],4)) else (bnd (rI BA) fun r1=>bif (r1 != 0) then (some ([],5)) else (bnd (sub BA 0 (wrap .i64 ((BA.length:Int) - 1))) fun l1=>bnd (zR l1) fun r2=>some (r2,0)))
theorem zEB [AO] {BA A1 c1 r} (h:nE BA=some r):
    AX Tryz.prog 123 [.slice A1 BA.length c1] [.ro (BP AP A1 c1 BA)] (fun v F=>∃ A2 c2,v= .tuple #[.slice A2 r.1.length c2, .int .i64 r.2]∧F= [.res (zD AP 5 A2 c2 r.1)]):=by
 refine AX.intro Tryz.func123 O O O fun w R=>?_;refine .ab [0] O<|.seq<|.block<|.ab [0,4] O<|.cb h O (fun h=>?_) (fun h=>?_)
 ·refine .EQ [2,3] [] 1 O O<|.AQ (fun _ w=>w.EH AP 5) ?_;cases h;exact .rv O O ⟨none,0,O,O⟩ zw
 refine .a 1 O<|.bd h fun r1 hr1 h=>.cv [0] (iF hr1) Vp O<|.b [0,8] O<|.cb h O (fun h=>?_) (fun h=>?_)
 ·refine .EQ [2,3] [] 1 O O<|.AQ (fun _ w=>w.EH AP 5) ?_;cases h;exact .rv O O ⟨none,0,O,O⟩ zw
 refine .skip<|.BF<|.AB<|.pr [0] O<|.a 4 O<|.bd h fun l1 hl1 h=>.sub (E:=(DC AP)) O O (.head _) O O O O O O O hl1 fun A2 c2=>.bd h fun r2 hr2 h=>.cr 3 [0] [] 0 (xI hr2) YP O fun A3 c3=>.bf [2,3] [0] 2 O O ?_;cases h;exact .rv O O ⟨A3,c3,O,O⟩ zw
theorem zQD:BV Tryz.prog 125:=en Tryz.func125 (by kernel_rfl)
def qH (IU:Int):Option Int:=
 bif (IU==1) then (some 6) else (some 3)
theorem iP {IU r} (h:qH IU=some r):
    AX Tryz.prog 125 [.int .i64 IU] [] (Val (.int .i64 r)):=by
 refine AX.intro Tryz.func125 O O O fun w R=>?_;refine .ab [0] O<|.seq<|.ab [4] O<|.cb h O (fun h=>?_) (fun h=>?_)
 ·refine .ab [2] O ?_;cases h;exact .rv O O ⟨O,O⟩ zw
 refine .sk<|.pr [] O<|.ae O ?_;cases h;exact .rv O O ⟨O,O⟩ zw
theorem zWK:BV Tryz.prog 180:=en Tryz.func180 (by kernel_rfl)
def oY [AO] (BA:(List Int)):Option (ByteArray × Bool):=
 bnd (zI (τ:=(ByteArray × Bool) ⊕ List Int) (fun (s1:List Int × Int)=>bif decide (s1.2<(BA.length:Int)) then (bnd (AU BA s1.2) fun x1=>bif decide ((wrap .i64 (xP .u8 x1 4))≥13) then (some (.done (.inl (⟨#[]⟩,false)))) else (bnd (DU (⟨#[48,49,50,51,52,53,54,55,56,57,32,45,46]⟩) (xP .u8 x1 4)) fun y1=>bnd (app 1 s1.1 [y1]) fun l1=>bif decide ((wrap .i64 (vL .u8 x1 15))≥13) then (some (.done (.inl (⟨#[]⟩,false)))) else (bnd (DU (⟨#[48,49,50,51,52,53,54,55,56,57,32,45,46]⟩) (vL .u8 x1 15)) fun y2=>bnd (app 1 l1 [y2]) fun l2=>some (.next (l2,wrap .i64 (s1.2+1)))))) else (some (.done (.inr s1.1)))) ([],0)) fun o1=>wN o1 fun o2=>some (TA o2,true)
theorem zDX [AO] {BA A1 c1 r} (h:oY BA=some r):
    AX Tryz.prog 180 [.slice A1 BA.length c1] [.ro (BP AP A1 c1 BA)] (Val (.tuple #[.string r.1, .bool r.2])):=by
 refine AX.intro Tryz.func180 O O O fun w R=>?_;refine .ab [0] O<|.ae O<|.seq<|.ab [4,9,10,11] O<|.AQ (fun _ w=>w.EH AP 5)<|.bd h fun o1 hl1 h=>.EJ 2 (fun (o2:List Int) (e2:Option Addr × Nat)=>[.s 4 (.slice e2.1 o2.length e2.2)]) (fun o2 e2=>[.res (zD AP 5 e2.1 e2.2 o2)]) O O (fun o2=>o1= .inr o2) ?_ ?_
 ·refine .block<|.BH hl1 1 (fun (s1:List Int × Int) (e1:Option Addr × Nat)=>[.s 4 (.slice e1.1 s1.1.length e1.2),9,10, .s 11 (.int .i64 s1.2)]) (fun s1 e1=>[.res (zD AP 5 e1.1 e1.2 s1.1)]) O O (none,0) (zb O) (fun _ w=>w) ?_;rintro s1 ⟨A2,c2⟩ st1 hm1 hd1 h1;refine .ae O<|.seq<|.cb h1 O (fun h1=>?_) (fun h1=>?_)
  ·refine .sk<|.pr [4,9,10,11] O<|.seq<|.block<|.seq<|.region<|.bd h1 fun x1 hx1 h1=>.FB hx1 1 O fun b1 ED=>.ld ED 0 0 O<|.bf [4,6,9,10,11] [] 1 O O<|.a 4 O<|.bS O fun g1=>.b [4,9,10,11,19,20,21] O<|.block<|.rounds 9<|.round<|.ae O<|.seq<|.EF O<|.sk<|.pr [4,9,10,11,19,20,21] O<|.seq<|.block<|.seq<|.region<|.TB 0 O O O O O O O O O O<|.lb 0 0 O<|.b [4,8,9,10,11,19,20,21] O<|.seq<|.ab [4,8,9,10,11,19,20,21,27] O<|.cb h1 O (fun h1=>?_) (fun h1=>?_)
   ·refine .EQ [2,3] [] 3 O O ?_;cases h1;cases hd1 _ rfl
    have h:some _=some _:=h;cases h;exact .rv O O ⟨O,O⟩ zw
   refine .sk<|.pr [4,8,9,10,11,19,20,21] O<|.region<|.n 2 O<|.bd h1 fun y1 hy1 h1=>.DU O O O O O hy1<|.bS O fun g2=>.bd h1 fun l1 hl1 h1=>.app (E:=AP) hl1 O O O (FX 2 O) O O O O O O O O (oP (.head _) O O) O O fun A4 c4=>.p O O<|.done<|.BF<|.AB<|.pf [4,9,10,11,19,20,21] [0] 1 O O<|.region<|.be O<|.round<|.pr [4,9,10,11,19,20,21] O<|.ae O<|.seq<|.EF O<|.sk<|.pr [4,9,10,11,19,20,21] O<|.seq<|.block<|.seq<|.region<|.TB 1 O O O O O O O O O O<|.lb 1 1 O<|.b [4,8,9,10,11,19,20,21] O<|.seq<|.ab [4,8,9,10,11,19,20,21,27] O<|.cb h1 O (fun h1=>?_) (fun h1=>?_)
   ·refine .EQ [2,3] [] 3 O O ?_;cases h1;cases hd1 _ rfl
    have h:some _=some _:=h;cases h;exact .rv O O ⟨O,O⟩ zw
   refine .sk<|.pr [4,8,9,10,11,19,20,21] O<|.region<|.n 2 O<|.bd h1 fun y2 hy2 h1=>.DU O O O O O hy2<|.bS O fun g3=>.bd h1 fun l2 hl2 h1=>.app (E:=AP) hl2 O O O (.s .z) O O O O O O O O (oP (.head _) O O) O O fun A5 c5=>.p O O<|.done<|.BF<|.AB<|.pf [4,9,10,11,19,20,21] [0] 1 O O<|.region<|.be O<|.round<|.pr [4,9,10,11,19,20,21] O<|.ae O<|.seq<|.FN O<|.xq O<|.BF<|.AB<|.pf [4,9,10,11] [0] 1 O O<|.region ?_;cases h1;exact .be O<|.ag (A5,c5) hm1 O zw
  refine .xq O ?_;cases h1;cases hd1 _ rfl
  exact .AB<|.DN s1.1 (A2,c2) O (zb O) (zl [0] 1 O)
 rintro o2 ⟨A3,c3⟩ ho;subst ho;have h:=IV h;refine .a 1 O<|.AQ (fun _ w=>w.CO)<|.vw O O O O O O O O O (OB (E:=AP) (.head _))<|.bf [2,3] [] 1 O O ?_;cases h;exact .rv O O ⟨O,O⟩ zw
theorem zWH:BV Tryz.prog 181:=en Tryz.func181 (by kernel_rfl)
def mF [AO] (BA:(List Int)):Option (ByteArray × Bool):=
 bnd (zI (τ:=List Int × Int) (fun (s1:List Int × Int × Int × Int)=>bif decide (s1.2.2.2<(BA.length:Int)) then (bnd (AU BA s1.2.2.2) fun x1=>bnd (PG .i64 (wrap .i64 x1) s1.2.2.1) fun q1=>bnd (zI (τ:=List Int × Int × Int) (fun (s2:List Int × Int × Int)=>bif decide (s2.2.2≥6) then (bnd (app 1 s2.1 [wrap .u8 (wrap .i64 ((vL .i64 s2.2.1 63)+32))]) fun l1=>some (.next (l1,xP .i64 s2.2.1 6,wrap .i64 (s2.2.2 - 6)))) else (some (.done (s2.1,s2.2.1,s2.2.2)))) (s1.1,CZ .i64 s1.2.1 q1,wrap .i64 (s1.2.2.1+8))) fun o2=>some (.next (o2.1,o2.2.1,o2.2.2,wrap .i64 (s1.2.2.2+1)))) else (some (.done (s1.1,s1.2.1)))) ([],0,0,0)) fun o1=>some (TA o1.1,(o1.2==0))
theorem zFj [AO] {BA A1 c1 r} (h:mF BA=some r):
    AX Tryz.prog 181 [.slice A1 BA.length c1] [.ro (BP AP A1 c1 BA)] (Val (.tuple #[.string r.1, .bool r.2])):=by
 refine AX.intro Tryz.func181 O O O fun w R=>?_;refine .ab [0] O<|.ae O<|.ae O<|.seq<|.ab [4,5,6,9,10,11] O<|.AQ (fun _ w=>w.EH AP 5)<|.bd h fun o1 hl1 h=>.DZ 2 (fun (e2:Option Addr × Nat)=>[.s 4 (.slice e2.1 o1.1.length e2.2), .s 5 (.int .i64 o1.2)]) (fun e2=>[.res (zD AP 5 e2.1 e2.2 o1.1)]) O O ?_ ?_
 ·refine .block<|.BH hl1 1 (fun (s1:List Int × Int × Int × Int) (e1:Option Addr × Nat)=>[.s 4 (.slice e1.1 s1.1.length e1.2), .s 5 (.int .i64 s1.2.1), .s 6 (.int .i64 s1.2.2.1),9,10, .s 11 (.int .i64 s1.2.2.2)]) (fun s1 e1=>[.res (zD AP 5 e1.1 e1.2 s1.1)]) O O (none,0) (zb O) (fun _ w=>w) ?_;rintro s1 ⟨A2,c2⟩ st1 hm1 hd1 h1;refine .ae O<|.seq<|.cb h1 O (fun h1=>?_) (fun h1=>?_)
  ·refine .sk<|.pr [4,5,6,9,10,11] O<|.seq<|.block<|.seq<|.region<|.bd h1 fun x1 hx1 h1=>.FB hx1 1 O fun b1 ED=>.ld ED 0 0 O<|.bf [4,5,6,8,9,10,11] [] 1 O O<|.a 4 O<|.bd h1 fun q1 hq1 h1=>.shl O O O hq1<|.b [4,5,6,9,10,11] O<|.bd h1 fun o2 hl2 h1=>.DV<|.DZ 1 (fun (e4:Option Addr × Nat)=>[.s 4 (.slice e4.1 o2.1.length e4.2), .s 5 (.int .i64 o2.2.1), .s 6 (.int .i64 o2.2.2),9,10,11]) (fun e4=>[.res (zD AP 5 e4.1 e4.2 o2.1)]) O O ?_ ?_
   ·refine .block<|.BH hl2 1 (fun (s2:List Int × Int × Int) (e3:Option Addr × Nat)=>[.s 4 (.slice e3.1 s2.1.length e3.2), .s 5 (.int .i64 s2.2.1), .s 6 (.int .i64 s2.2.2),9,10,11]) (fun s2 e3=>[.res (zD AP 5 e3.1 e3.2 s2.1)]) O O (A2,c2) (zb O) (fun _ w=>w) ?_;rintro s2 ⟨A4,c4⟩ st2 hm2 hd2 h2;refine .seq<|.ab [4,5,6,9,10,11,24] O<|.cb h2 O (fun h2=>?_) (fun h2=>?_)
    ·refine .sk<|.pr [4,5,6,9,10,11] O<|.block<|.a 5 O<|.bS O fun g1=>.bd h2 fun l1 hl1 h2=>.app (E:=AP) hl1 O O O (.s .z) O O O O O O O O (oP (.head _) O O) O O fun A6 c6=>.bf [4,5,6,9,10,11] [0] 1 O O<|.region<|.n 6 O<|.done<|.BF ?_;cases h2;exact .AB<|.ag (A6,c6) hm2 O zw
    refine .xq O ?_;cases h2;cases hd2 _ rfl
    exact .AB<|.hE (A4,c4) O zw
   rintro ⟨A5,c5⟩;refine .BF<|.AB<|.region ?_;cases h1;exact .be O<|.ag (A5,c5) hm1 O zw
  refine .xq O ?_;cases h1;cases hd1 _ rfl
  exact .AB<|.hE (A2,c2) O (zl [0] 1 O)
 rintro ⟨A3,c3⟩;refine .a 1 O<|.AQ (fun _ w=>w.CO)<|.vw O O O O O O O O O (OB (E:=AP) (.head _))<|.bf [2,3] [] 1 O O ?_;cases h;exact .rv O O ⟨O,O⟩ zw
theorem zVX:BV Tryz.prog 158:=en Tryz.func158 (by kernel_rfl)
def pR [AO] (BA:(List Int)):Option (zQ × Int × Bool × Int):=
 bif ((BA.length:Int)==0) then (some ((⟨0,⟨#[]⟩⟩:zQ),0,false,4)) else (bnd (AU BA 0) fun x1=>bif (x1==193) then (some ((⟨0,⟨#[]⟩⟩:zQ),1,true,0)) else (bif decide ((BA.length:Int)<(wrap .i64 (1+(wrap .i64 (vL .u8 x1 63))))) then (some ((⟨0,⟨#[]⟩⟩:zQ),0,false,4)) else (bnd (AU BA 0) fun x2=>bnd (sub BA 1 (wrap .i64 (1+(wrap .i64 (vL .u8 x1 63))))) fun l1=>bnd ((bif ((wrap .i64 (xP .u8 x2 6))==1) then (bnd (sub BA 1 (wrap .i64 (1+(wrap .i64 (vL .u8 x1 63))))) fun l2=>bnd (oY l2) fun r1=>some (r1.2,r1.1)) else (bif ((wrap .i64 (xP .u8 x2 6))==2) then (bnd (sub BA 1 (wrap .i64 (1+(wrap .i64 (vL .u8 x1 63))))) fun l3=>bnd (mF l3) fun r2=>some (r2.2,r2.1)) else (some (true,TA l1))):Option (Bool × ByteArray))) fun o1=>bif !o1.1 then (some ((⟨0,⟨#[]⟩⟩:zQ),0,false,6)) else (some ((⟨wrap .i64 (xP .u8 x2 6),o1.2⟩:zQ),wrap .i64 (1+(wrap .i64 (vL .u8 x1 63))),false,0)))))
theorem zFk [AO] {BA A1 c1 r} (h:pR BA=some r):
    AX Tryz.prog 158 [.slice A1 BA.length c1] [.ro (BP AP A1 c1 BA)] (Val (.tuple #[.agg #[.int .i64 r.1.Kind, .string r.1.Value], .int .i64 r.2.1, .bool r.2.2.1, .int .i64 r.2.2.2])):=by
 refine AX.intro Tryz.func158 O O O fun w R=>?_;refine .seq<|.region<|.alloc O O fun g1=>.b [0,2] O<|.seq<|.block<|.ab [0,2,7] O<|.cb h O (fun h=>?_) (fun h=>?_)
 ·refine .a 1 O<|.sb 0 0 O<|.bf [2,3,4,5] [0] 1 O O ?_;cases h;exact .rt O Tryz.results158 (.cell O (.head _) O (.tmp O (.tmp O (.tmp O .nil)))) O ⟨O,O⟩ (zl [] 1 O)
 refine .a 1 O<|.bd h fun x1 hx1 h=>.FB hx1 1 O fun b1 ED=>.ld ED 0 0 O<|.bf [0,2,12] [] 1 O O<|.cb h O (fun h=>?_) (fun h=>?_)
 ·refine .a 1 O<|.sb 0 0 O<|.bf [2,3,4,5] [0] 1 O O ?_;cases h;exact .rt O Tryz.results158 (.cell O (.head _) O (.tmp O (.tmp O (.tmp O .nil)))) O ⟨O,O⟩ (zl [] 1 O)
 refine .skip<|.BF<|.AB<|.pr [0,2] O<|.a 1 O<|.FB hx1 1 O fun b2 JA=>.ld JA 0 0 O<|.bf [0,2,3] [] 1 O O<|.seq<|.ab [0,2,3,27] O<|.cb h O (fun h=>?_) (fun h=>?_)
 ·refine .a 1 O<|.sb 0 0 O<|.bf [2,3,4,5] [0] 1 O O ?_;cases h;exact .rt O Tryz.results158 (.cell O (.head _) O (.tmp O (.tmp O (.tmp O .nil)))) O ⟨O,O⟩ (zl [] 1 O)
 refine .sk<|.pr [0,2,3] O<|.seq<|.BG (iN [0,5,9,12,16,20,24,29,33,36,43] .nil) _ mixed (by kernel_rfl) (zl [] 1 O)<|.yn 1 O<|.bd h fun x2 hx2 h=>.FV EI hx2 fun b3 JY QG=>.AQ (fun _ w=>Sat.EP QG EI hx2 w) ?_;have hc1:=fun w h=>Sat.EP QG (.head _) hx2 ((fun (w:World) (h:Sat (.ro (BP AP A1 c1 BA)::R) w)=>h) w h);refine .DR (Rd.LK (E:=AP) QG hx2 O O O O O O O) O<|.DR (Rd.load JY 0 O (.head _) O O) O<|.yn 4 O<|.bd h fun l1 hl1 h=>.LU (zm 2 O) hl1 fun A2 c2 hS1=>?_;have hc2:=fun w h=>Sat.QA hS1 EI hl1 (hc1 w h);refine .DR (Rd.sub hS1 hl1 (zm 3 O) O O O O O O O O) O<|.DR (Rd.vw (.head _) O O O O O O O O) O<|.yn 1 O<|.BZ<|.sb 0 2 O<|.xk (zl [] 3 O)<|.BX<|.AB<|.pf [0,2,3] [0] 2 O O<|.ae O<|.seq<|.bd h fun o1 hj1 h=>.cu 2 [2,3, .s 6 (.bool o1.1)] [.res (Box g1 105 [.int .i64 (wrap .i64 (xP .u8 x2 6)), .string o1.2])] O O ?_ ?_
 ·refine .a 1 O<|.lb 0 0 O<|.b [0,2,3,6,40] O<|.block<|.ab [0,2,3,6,40,41] O<|.cb hj1 O (fun hj1=>?_) (fun hj1=>?_)
  ·refine .region<|.n 2 O<|.bd hj1 fun l2 hl2 hj1=>.sub (E:=(DC AP)) O O EI O O O O O O O hl2 fun A3 c3=>.bd hj1 fun r1 hr1 hj1=>.cv [0] (zDX hr1) zWK O<|.n 4 O<|.sb 1 1 O<|.p O O<|.done<|.BF ?_;cases hj1;exact .AB<|.hU O (zl [0] 2 O)
  refine .ab [0,2,3,6,51] O<|.cb hj1 O (fun hj1=>?_) (fun hj1=>?_)
  ·refine .region<|.n 2 O<|.bd hj1 fun l3 hl3 hj1=>.sub (E:=(DC AP)) O O EI O O O O O O O hl3 fun A4 c4=>.bd hj1 fun r2 hr2 hj1=>.cv [0] (zFj hr2) zWH O<|.n 4 O<|.sb 1 1 O<|.p O O<|.done<|.BF ?_;cases hj1;exact .AB<|.hU O (zl [0] 2 O)
  refine .skip<|.BF ?_;cases hj1;exact .AB<|.hU O (zl [0] 1 O)
 refine .seq<|.ab [2,3,62] O<|.cb h O (fun h=>?_) (fun h=>?_)
 ·refine .a 1 O<|.sb 0 0 O<|.b [2,3,4,5] O ?_;cases h;exact .rt O Tryz.results158 (.cell O (.head _) O (.tmp O (.tmp O (.tmp O .nil)))) O ⟨O,O⟩ (zl [] 1 O)
 refine .sk<|.pr [2,3] O<|.seq<|.region<|.lb 0 0 O<|.p O O<|.sb 0 0 O<|.b [2,3,4,5] O ?_;cases h;exact .rt O Tryz.results158 (.cell O (.head _) O (.tmp O (.tmp O (.tmp O .nil)))) O ⟨O,O⟩ (zl [] 1 O)
theorem zWl:BV Tryz.prog 124:=en Tryz.func124 (by kernel_rfl)
def qM [AO] (BA:(List Int)):Option ((List zQ) × Int × Int):=
 bnd (zI (τ:=((List zQ) × Int × Int) ⊕ Unit) (fun (s1:List zQ × Int)=>bnd (sub BA s1.2 (BA.length:Int)) fun l1=>bnd (pR l1) fun r1=>bif (r1.2.2.2 != 0) then (some (.done (.inl ([],0,r1.2.2.2)))) else (bif r1.2.2.1 then (some (.done (.inl (s1.1,wrap .i64 (s1.2+r1.2.1),0)))) else (bif ((s1.1.length:Int)==16) then (some (.done (.inl ([],0,3)))) else (bnd (app 24 s1.1 [r1.1]) fun l2=>some (.next (l2,wrap .i64 (s1.2+r1.2.1))))))) ([],0)) fun o1=>wN o1 fun o2=>none
theorem zBv [AO] {BA A1 c1 r} (h:qM BA=some r):
    AX Tryz.prog 124 [.slice A1 BA.length c1] [.ro (BP AP A1 c1 BA)] (fun v F=>∃ A2 c2,v= .tuple #[.slice A2 r.1.length c2, .int .i64 r.2.1, .int .i64 r.2.2]∧F= [.res (zD zP 105 A2 c2 r.1)]):=by
 refine AX.intro Tryz.func124 O O O fun w R=>?_;refine .ab [0,2,3] O<|.AQ (fun _ w=>w.EH zP 105)<|.bd h fun o1 hl1 h=>.DV<|.EJ 2 (fun (o2:Unit) (e2:Unit)=>[]) (fun o2 e2=>[]) O O (fun o2=>o1= .inr o2) ?_ ?_
 ·refine .block<|.BH hl1 1 (fun (s1:List zQ × Int) (e1:Option Addr × Nat)=>[0, .s 2 (.slice e1.1 s1.1.length e1.2), .s 3 (.int .i64 s1.2)]) (fun s1 e1=>[.res (zD zP 105 e1.1 e1.2 s1.1)]) O O (none,0) (zb O) (fun _ w=>w) ?_;rintro s1 ⟨A2,c2⟩ st1 hm1 hd1 h1;refine .block<|.a 2 O<|.bd h1 fun l1 hl1 h1=>.sub (E:=(DC AP)) O O EI O O O O O O O hl1 fun A3 c3=>.bd h1 fun r1 hr1 h1=>.cv [0] (zFk hr1) zVX O<|.n 5 O<|.alloc O O fun g1=>.sb 0 0 O<|.bf [0,2,3,5,6,7,8] [0] 1 O O<|.seq<|.block<|.ab [0,2,3,5,6,7,8,18] O<|.cb h1 O (fun h1=>?_) (fun h1=>?_)
  ·refine .EQ [2,3,4] [] 3 O O<|.AQ (fun _ w=>w.EH zP 105) ?_;cases h1;cases hd1 _ rfl
   have h:some _=some _:=h;cases h;exact .rv O O ⟨none,0,O,O⟩ zw
  refine .ab [0,2,3,5,6,22] O<|.cb h1 O (fun h1=>?_) (fun h1=>?_)
  ·refine .EQ [2,3,4] [1] 2 O O ?_;cases h1;cases hd1 _ rfl
   have h:some _=some _:=h;cases h;exact .rv O O ⟨A2,c2,O,O⟩ zw
  refine .ab [0,2,3,5,6,28] O<|.cb h1 O (fun h1=>?_) (fun h1=>?_)
  ·refine .EQ [2,3,4] [] 3 O O<|.AQ (fun _ w=>w.EH zP 105) ?_;cases h1;cases hd1 _ rfl
   have h:some _=some _:=h;cases h;exact .rv O O ⟨none,0,O,O⟩ zw
  refine .skip<|.BF<|.AB<|.pr [0,2,3,5,6] O<|.region<|.p O O<|.lb 0 0 O<|.bS O fun g2=>.bd h1 fun l2 hl2 h1=>.app (E:=zP) hl2 O O O (FX 2 O) O O O O O O O O (oP (.head _) O O) O O fun A4 c4=>.n 5 O<|.done<|.BF ?_;cases h1;exact .AB<|.ag (A4,c4) hm1 O (zl [0] 2 O)
 rintro o2 e2 ho;subst ho;have h:=IV h;have h:none=some _:=h;cases h
theorem zXA:BV Tryz.prog 126:=en Tryz.func126 (by kernel_rfl)
def tJ (CU:Int):Option Bool:=
 some (CU != 0)
theorem bB {CU r} (h:tJ CU=some r):
    AX Tryz.prog 126 [.int .u8 CU] [] (Val (.bool r)):=by
 unfold tJ at h
 refine AX.intro Tryz.func126 O O O fun w R=>?_;refine .ab [0] O<|.ab [2] O ?_;cases h;exact .rv O O ⟨O,O⟩ zw
def uK [AO] (AL:(List Int)):Option Int:=
 bnd (zI (τ:=Int ⊕ Unit) (fun (s1:Int)=>bif decide (s1<(AL.length:Int)) then (bnd (AU AL s1) fun x1=>bnd (tJ x1) fun r1=>bif r1 then (some (.done (.inl s1))) else (some (.next (wrap .i64 (s1+1))))) else (some (.done (.inr ())))) 0) fun o1=>wN o1 fun o2=>some (-1)
theorem mT [AO] {AL A1 c1 r} (h:uK AL=some r):
    AX Tryz.prog 157 [.slice A1 AL.length c1, .func (.func 126) #[] #[]] [.ro (BP AP A1 c1 AL)] (Val (.int .i64 r)):=by
 refine AX.intro Tryz.func157 O O O fun w R=>?_;refine .ab [0,1] O<|.seq<|.ab [0,1,7,8] O<|.bd h fun o1 hl1 h=>.EJ 1 (fun (o2:Unit) (e2:Unit)=>[]) (fun o2 e2=>[]) O O (fun o2=>o1= .inr o2) ?_ ?_
 ·refine .block<|.BH hl1 0 (fun (s1:Int) (e1:Unit)=>[0,1,7, .s 8 (.int .i64 s1)]) (fun s1 e1=>[]) O O () (zb O) (fun _ w=>w) ?_;rintro s1 e1 st1 hm1 hd1 h1;refine .ae O<|.seq<|.cb h1 O (fun h1=>?_) (fun h1=>?_)
  ·refine .sk<|.pr [0,1,7,8] O<|.seq<|.block<|.ab [0,1,5,7,8] O<|.a 3 O<|.bd h1 fun x1 hx1 h1=>.FB hx1 0 O fun b1 ED=>.ld ED 0 0 O<|.bd h1 fun r1 hr1 h1=>.cv [] (bB hr1) zXA O<|.bf [0,1,5,7,8,16] [] 1 O O<|.cb h1 O (fun h1=>?_) (fun h1=>?_)
   ·refine .EQ [4] [] 1 O O ?_;cases h1;cases hd1 _ rfl
    have h:some _=some _:=h;cases h;exact .rv O O ⟨O,O⟩ zw
   refine .skip<|.BF<|.AB<|.pr [0,1,7,8] O<|.region ?_;cases h1;exact .be O<|.ag () hm1 O zw
  refine .xq O ?_;cases h1;cases hd1 _ rfl
  exact .AB<|.DN () () O trivial (zl [] 1 O)
 rintro o2 e2 ho;subst ho;have h:=IV h;refine .ae O ?_;cases h;exact .rv O O ⟨O,O⟩ zw
def wE [AO] (AL:(List Int)):Option Bool:=
 bnd (uK AL) fun r1=>some (decide (r1≥0))
theorem nJ [AO] {AL A1 c1 r} (h:wE AL=some r):
    AX Tryz.prog 120 [.slice A1 AL.length c1, .func (.func 126) #[] #[]] [.ro (BP AP A1 c1 AL)] (Val (.bool r)):=by
 refine AX.intro Tryz.func120 O O O fun w R=>?_;refine .ab [0,1] O<|.a 2 O<|.bd h fun r1 hr1 h=>.cv [0] (mT hr1) Vd O<|.bf [4] [] 1 O O ?_;cases h;exact .rv O O ⟨O,O⟩ zw
theorem Vt:BV Tryz.prog 91:=en Tryz.func91 (by kernel_rfl)
def uB [AO] (BA:(List Int)) (IE:Int):Option (zW × Int):=
 bnd (AU BA (wrap .i64 (2+IE))) fun x1=>bif ((wrap .i64 (8*(wrap .i64 x1)))==0) then (some ((⟨false,0,0, []⟩:zW),0)) else (bif decide ((BA.length:Int)<(wrap .i64 ((wrap .i64 (8*(wrap .i64 x1)))+2))) then (some ((⟨false,0,0, []⟩:zW),4)) else (bnd ((bnd (AU BA (wrap .i64 (8*(wrap .i64 x1)))) fun x2=>bif (x2 != 1) then (some true) else (bnd (AU BA (wrap .i64 ((wrap .i64 (8*(wrap .i64 x1)))+1))) fun x3=>some (x3==0)):Option Bool)) fun o1=>bif o1 then (some ((⟨false,0,0, []⟩:zW),6)) else (bnd (AU BA (wrap .i64 ((wrap .i64 (8*(wrap .i64 x1)))+1))) fun x4=>bif decide ((BA.length:Int)<(wrap .i64 ((wrap .i64 (8*(wrap .i64 x1)))+(wrap .i64 (8*(wrap .i64 x4)))))) then (some ((⟨false,0,0, []⟩:zW),4)) else (bnd (sub BA (wrap .i64 (8*(wrap .i64 x1))) (wrap .i64 ((wrap .i64 (8*(wrap .i64 x1)))+(wrap .i64 (8*(wrap .i64 x4)))))) fun l1=>bnd (nE l1) fun r1=>bif (r1.2 != 0) then (some ((⟨false,0,0, []⟩:zW),r1.2)) else (bnd (qH IE) fun r2=>bnd (sub r1.1 r2 (r1.1.length:Int)) fun l2=>bnd (qM l2) fun r3=>bif (r3.2.2 != 0) then (some ((⟨false,0,0, []⟩:zW),r3.2.2)) else (bnd (qH IE) fun r4=>bnd (sub r1.1 (wrap .i64 (r4+r3.2.1)) (r1.1.length:Int)) fun l3=>bnd (wE l3) fun r5=>bif r5 then (some ((⟨false,0,0, []⟩:zW),6)) else (bnd (AU r1.1 2) fun x5=>bif (IE==1) then (bnd (AU r1.1 3) fun x6=>bnd (AU r1.1 4) fun x7=>bnd (AU r1.1 5) fun x8=>some ((⟨true,x5,CZ .u32 (CZ .u32 (wrap .u32 x6) (yM .u32 (wrap .u32 x7) 8)) (yM .u32 (wrap .u32 x8) 16),r3.1⟩:zW),0)) else (some ((⟨true,x5,0,r3.1⟩:zW),0)))))))))
theorem pW [AO] {BA IE A1 c1 r} (h:uB BA IE=some r):
    AX Tryz.prog 91 [.slice A1 BA.length c1, .int .i64 IE] [.ro (BP AP A1 c1 BA)] (fun v F=>∃ A2 c2,v= .tuple #[.agg (Um r.1 A2 c2).toArray, .int .i64 r.2]∧F= [.ro (BP zP A2 c2 r.1.Fields)]):=by
 refine AX.intro Tryz.func91 O O O fun w R=>?_;refine .seq<|.region<|.alloc O O fun g1=>.b [0,1,4] O<|.a 3 O<|.bd h fun x1 hx1 h=>.FB hx1 1 O fun b1 ED=>.ld ED 0 0 O<|.bf [0,1,4,6] [] 1 O O<|.seq<|.block<|.ab [0,1,4,6,19] O<|.cb h O (fun h=>?_) (fun h=>?_)
 ·refine .a 1 O<|.sb 0 0 O<|.bf [4,5] [0] 1 O O<|.AQ (fun _ w=>w.CS (DC zP)) ?_;cases h;exact .rt O Tryz.results91 (.cell O EI O (.tmp O .nil)) O ⟨none,0,O,O⟩ (zk 1 2 [0] [] 0 O)
 refine .ab [0,1,4,6,23] O<|.cb h O (fun h=>?_) (fun h=>?_)
 ·refine .a 1 O<|.sb 0 0 O<|.bf [4,5] [0] 1 O O<|.AQ (fun _ w=>w.CS (DC zP)) ?_;cases h;exact .rt O Tryz.results91 (.cell O EI O (.tmp O .nil)) O ⟨none,0,O,O⟩ (zk 1 2 [0] [] 0 O)
 refine .seq<|.bd h fun o1 hj1 h=>.cu 0 [0,1,4,6, .s 30 (.bool o1)] [] O O ?_ ?_
 ·refine .region<|.n 2 O<|.bd hj1 fun x2 hx2 hj1=>.FB hx2 1 O fun b2 JA=>.ld JA 0 0 O<|.n 2 O<|.gs 36 hj1 O (fun hj1=>?_) (fun hj1=>?_)
  ·cases hj1;exact .be O<|.hU O (zl [] 1 O)
  refine .n 3 O<|.BR O O<|.bd hj1 fun x3 hx3 hj1=>.FB hx3 2 O fun b3 JY=>.BR O O<|.ld JY 0 0 O ?_;cases hj1;exact .be O<|.hU O (zl [] 2 O)
 refine .cb h O (fun h=>?_) (fun h=>?_)
 ·refine .a 1 O<|.sb 0 0 O<|.bf [4,5] [0] 1 O O<|.AQ (fun _ w=>w.CS (DC zP)) ?_;cases h;exact .rt O Tryz.results91 (.cell O EI O (.tmp O .nil)) O ⟨none,0,O,O⟩ (zk 1 2 [0] [] 0 O)
 refine .skip<|.BF<|.AB<|.pr [0,1,4,6] O<|.a 4 O<|.bd h fun x4 hx4 h=>.FB hx4 1 O fun b4 KN=>.ld KN 0 0 O<|.bf [0,1,4,6,7] [] 1 O O<|.seq<|.ab [0,1,4,6,7,57] O<|.cb h O (fun h=>?_) (fun h=>?_)
 ·refine .a 1 O<|.sb 0 0 O<|.bf [4,5] [0] 1 O O<|.AQ (fun _ w=>w.CS (DC zP)) ?_;cases h;exact .rt O Tryz.results91 (.cell O EI O (.tmp O .nil)) O ⟨none,0,O,O⟩ (zk 1 2 [0] [] 0 O)
 refine .sk<|.pr [0,1,4,6,7] O<|.a 3 O<|.bd h fun l1 hl1 h=>.sub (E:=(DC AP)) O O EI O O O O O O O hl1 fun A2 c2=>.bd h fun r1 hr1 h=>.cr 4 [0] [] 0 (zEB hr1) zWh O fun A3 c3=>.bf [0,1,4,8] [0,1] 2 O O<|.seq<|.ab [0,1,4,8,68] O<|.cb h O (fun h=>?_) (fun h=>?_)
 ·refine .a 2 O<|.sb 0 1 O<|.bf [4,5] [0] 1 O O<|.AQ (fun _ w=>w.CS (DC zP)) ?_;cases h;exact .rt O Tryz.results91 (.cell O EI O (.tmp O .nil)) O ⟨none,0,O,O⟩ (zk 1 2 [0] [] 0 O)
 refine .sk<|.pr [0,1,4] O<|.a 2 O<|.bd h fun r2 hr2 h=>.cv [] (iP hr2) zQD O<|.AQ (fun _ w=>w.CO)<|.bd h fun l2 hl2 h=>.sub (E:=(DC AP)) O O (.head _) O O O O O O O hl2 fun A4 c4=>.bd h fun r3 hr3 h=>.cr 4 [0] [] 0 (zBv hr3) zWl O fun A5 c5=>.bf [0,1,4,8,9,10] [0] 1 O O<|.seq<|.ab [0,1,4,8,9,10,81] O<|.cb h O (fun h=>?_) (fun h=>?_)
 ·refine .a 2 O<|.sb 0 2 O<|.bf [4,5] [0] 2 O O<|.AQ (fun _ w=>w.CS (DC zP)) ?_;cases h;exact .rt O Tryz.results91 (.cell O EI O (.tmp O .nil)) O ⟨none,0,O,O⟩ (zk 1 2 [0] [] 0 O)
 refine .sk<|.pr [0,1,4,9,10] O<|.seq<|.a 2 O<|.bd h fun r4 hr4 h=>.cv [] (iP hr4) zQD O<|.n 2 O<|.bd h fun l3 hl3 h=>.sub (E:=(DC AP)) O O EI O O O O O O O hl3 fun A6 c6=>.bd h fun r5 JF h=>.cv [0] (nJ JF) Ve O<|.bf [0,1,4,9,90] [] 1 O O<|.cb h O (fun h=>?_) (fun h=>?_)
 ·refine .a 1 O<|.sb 0 2 O<|.bf [4,5] [0] 2 O O<|.AQ (fun _ w=>w.CS (DC zP)) ?_;cases h;exact .rt O Tryz.results91 (.cell O EI O (.tmp O .nil)) O ⟨none,0,O,O⟩ (zk 1 2 [0] [] 0 O)
 refine .sk<|.pr [0,1,4,9] O<|.a 1 O<|.bd h fun x5 hx5 h=>.FB hx5 1 O fun b5 NU=>.ld NU 0 0 O<|.n 2 O<|.alloc O O fun g2=>.sb 0 0 O<|.bf [0,1,4,11] [0] 1 O O<|.seq<|.ab [0,4,11,98] O<|.cb h O (fun h=>?_) (fun h=>?_)
 ·refine .BG (iN [0,5,9,12,16,21,25,28,32,36,40,45,49,52,56,60,64,71] .nil) _ mixed (by kernel_rfl) (zl [] 1 O)<|.yn 1 O<|.bd h fun x6 hx6 h=>.FV (zm 2 O) hx6 fun b6 SI QI=>.AQ (fun _ w=>Sat.EP QI (zm 2 O) hx6 w) ?_;have hc1:=fun w h=>Sat.EP QI EI hx6 ((fun (w:World) (h:Sat (.res (zD zP 105 A5 c5 r3.1):: .ro (BP AP A3 c3 r1.1):: .res (Box g1 36 [.bool false, .int .u8 0, .int .u32 0, .slice none 0 0])::R) w)=>h) w h);refine .DR (Rd.LK (E:=AP) QI hx6 O O O O O O O) O<|.DR (Rd.load SI 0 O (.head _) O O) O<|.yn 2 O<|.bd h fun x7 hx7 h=>.FV (zm 3 O) hx7 fun b7 UR QJ=>.AQ (fun _ w=>Sat.EP QJ (zm 3 O) hx7 w) ?_;have hc2:=fun w h=>Sat.EP QJ (zm 2 O) hx7 (hc1 w h);refine .DR (Rd.LK (E:=AP) QJ hx7 O O O O O O O) O<|.DR (Rd.load UR 0 O (.head _) O O) O<|.yn 4 O<|.bd h fun x8 JL h=>.FV (zm 4 O) JL fun b8 UU MB=>.AQ (fun _ w=>Sat.EP MB (zm 4 O) JL w) ?_;have hc3:=fun w h=>Sat.EP MB (zm 3 O) JL (hc2 w h);refine .DR (Rd.LK (E:=AP) MB JL O O O O O O O) O<|.DR (Rd.load UU 0 O (.head _) O O) O<|.yn 4 O<|.BZ<|.sb 2 3 O<|.xk (zl [] 4 O)<|.BX<|.AB<|.pf [4,11] [0,3] 4 O O<|.seq<|.region<|.lb 0 0 O<|.sb 0 2 O<|.bf [4,5] [0] 1 O O<|.AQ (fun _ w=>(w.sl [1] 0 O).CO) ?_;cases h;exact .rt O Tryz.results91 (.cell O EI O (.tmp O .nil)) O ⟨A5,c5,O,O⟩ (zk 1 2 [0] [] 0 O)
 refine .sk<|.pf [4,11] [0,0] 1 O O<|.seq<|.region<|.lb 0 0 O<|.sb 0 2 O<|.bf [4,5] [0] 1 O O<|.AQ (fun _ w=>(w.sl [1] 0 O).CO) ?_;cases h;exact .rt O Tryz.results91 (.cell O EI O (.tmp O .nil)) O ⟨A5,c5,O,O⟩ (zk 1 2 [0] [] 0 O)
theorem zYM:BV Tryz.prog 43:=en Tryz.func43 (by kernel_rfl)
def oB [AO] (BA:(List Int)):Option (wA × Int):=
 bif decide ((BA.length:Int)<8) then (some ((⟨(⟨false,0,0, []⟩:zW),(⟨false,0,0, []⟩:zW),(⟨false,0,0, []⟩:zW), []⟩:wA),4)) else (bif decide ((BA.length:Int)>2048) then (some ((⟨(⟨false,0,0, []⟩:zW),(⟨false,0,0, []⟩:zW),(⟨false,0,0, []⟩:zW), []⟩:wA),3)) else (bnd (sub BA 0 8) fun l1=>bnd (rI l1) fun r1=>bif (r1 != 0) then (some ((⟨(⟨false,0,0, []⟩:zW),(⟨false,0,0, []⟩:zW),(⟨false,0,0, []⟩:zW), []⟩:wA),5)) else (bnd ((bnd (AU BA 0) fun x1=>bif (x1 != 1) then (some true) else (bnd (AU BA 1) fun x2=>bif (x2 != 0) then (some true) else (bnd (AU BA 6) fun x3=>some (x3 != 0))):Option Bool)) fun o1=>bif o1 then (some ((⟨(⟨false,0,0, []⟩:zW),(⟨false,0,0, []⟩:zW),(⟨false,0,0, []⟩:zW), []⟩:wA),6)) else (bnd (uB BA 0) fun r2=>bif (r2.2 != 0) then (some ((⟨(⟨false,0,0, []⟩:zW),(⟨false,0,0, []⟩:zW),(⟨false,0,0, []⟩:zW), []⟩:wA),r2.2)) else (bnd (uB BA 1) fun r3=>bif (r3.2 != 0) then (some ((⟨(⟨false,0,0, []⟩:zW),(⟨false,0,0, []⟩:zW),(⟨false,0,0, []⟩:zW), []⟩:wA),r3.2)) else (bnd (uB BA 2) fun r4=>bif (r4.2 != 0) then (some ((⟨(⟨false,0,0, []⟩:zW),(⟨false,0,0, []⟩:zW),(⟨false,0,0, []⟩:zW), []⟩:wA),r4.2)) else (bnd ((bnd (AU BA 5) fun x4=>bif decide ((wrap .i64 (8*(wrap .i64 x4)))>(BA.length:Int)) then (some (.inl ((⟨(⟨false,0,0, []⟩:zW),(⟨false,0,0, []⟩:zW),(⟨false,0,0, []⟩:zW), []⟩:wA),4))) else (bif decide ((wrap .i64 (8*(wrap .i64 x4)))>0) then (bnd (sub BA (wrap .i64 (8*(wrap .i64 x4))) (BA.length:Int)) fun l2=>bnd (zR l2) fun r5=>some (.inr r5)) else (some (.inr ([])))):Option ((wA × Int) ⊕ List Int))) fun o2=>wN o2 fun o3=>bnd (qX (⟨r2.1,r3.1,r4.1,o3⟩:wA)) fun r6=>bif !r6 then (some ((⟨(⟨false,0,0, []⟩:zW),(⟨false,0,0, []⟩:zW),(⟨false,0,0, []⟩:zW), []⟩:wA),1)) else (some ((⟨r2.1,r3.1,r4.1,o3⟩:wA),0)))))))))
theorem zCP [AO] {BA A1 c1 r} (h:oB BA=some r):
    AX Tryz.prog 43 [.slice A1 BA.length c1] [.ro (BP AP A1 c1 BA), .ro (BP xA (some ⟨0,0,none⟩) 3 ([2,5,7]:List Int))] (fun v F=>∃ A2 c2 A3 c3 A4 c4 A5 c5,v= .tuple #[.agg (jF r.1 A2 c2 A3 c3 A4 c4 A5 c5).toArray, .int .i64 r.2]∧F= [.ro (BP zP A2 c2 r.1.CG.Fields), .ro (BP zP A3 c3 r.1.Board.Fields), .ro (BP zP A4 c4 r.1.Product.Fields), .ro (BP AP A5 c5 r.1.Multi)]):=by
 refine AX.intro Tryz.func43 O O O fun w R=>?_;refine .seq<|.region<|.alloc O O fun g1=>.b [0,2] O<|.seq<|.block<|.ab [0,2,9] O<|.cb h O (fun h=>?_) (fun h=>?_)
 ·refine .a 1 O<|.sb 0 0 O<|.bf [2,3] [0] 1 O O<|.AQ (fun _ w=>w.CS (DC zP))<|.AQ (fun _ w=>w.CS (DC zP))<|.AQ (fun _ w=>w.CS (DC zP))<|.AQ (fun _ w=>w.CS (DC AP)) ?_;cases h;exact .rt O Tryz.results43 (.cell O (.tail _ (.tail _ (.tail _ (.tail _ (.head _))))) O (.tmp O .nil)) O ⟨none,0,none,0,none,0,none,0,O,O⟩ (zk 4 6 [1,1,1,0] [] 0 O)
 refine .ab [0,2,14] O<|.cb h O (fun h=>?_) (fun h=>?_)
 ·refine .a 1 O<|.sb 0 0 O<|.bf [2,3] [0] 1 O O<|.AQ (fun _ w=>w.CS (DC zP))<|.AQ (fun _ w=>w.CS (DC zP))<|.AQ (fun _ w=>w.CS (DC zP))<|.AQ (fun _ w=>w.CS (DC AP)) ?_;cases h;exact .rt O Tryz.results43 (.cell O (.tail _ (.tail _ (.tail _ (.tail _ (.head _))))) O (.tmp O .nil)) O ⟨none,0,none,0,none,0,none,0,O,O⟩ (zk 4 6 [1,1,1,0] [] 0 O)
 refine .a 1 O<|.bd h fun l1 hl1 h=>.sub (E:=(DC AP)) O O EI O O O O O O O hl1 fun A2 c2=>.bd h fun r1 hr1 h=>.cv [0] (iF hr1) Vp O<|.bf [0,2,19] [] 1 O O<|.cb h O (fun h=>?_) (fun h=>?_)
 ·refine .a 1 O<|.sb 0 0 O<|.bf [2,3] [0] 1 O O<|.AQ (fun _ w=>w.CS (DC zP))<|.AQ (fun _ w=>w.CS (DC zP))<|.AQ (fun _ w=>w.CS (DC zP))<|.AQ (fun _ w=>w.CS (DC AP)) ?_;cases h;exact .rt O Tryz.results43 (.cell O (.tail _ (.tail _ (.tail _ (.tail _ (.head _))))) O (.tmp O .nil)) O ⟨none,0,none,0,none,0,none,0,O,O⟩ (zk 4 6 [1,1,1,0] [] 0 O)
 refine .seq<|.bd h fun o1 hj1 h=>.cu 0 [0,2, .s 25 (.bool o1)] [] O O ?_ ?_
 ·refine .region<|.p O O<|.bd hj1 fun x1 hx1 hj1=>.FB hx1 1 O fun b1 ED=>.ld ED 0 0 O<|.n 2 O<|.gs 30 hj1 O (fun hj1=>?_) (fun hj1=>?_)
  ·cases hj1;exact .be O<|.hU O (zl [] 1 O)
  refine .n 1 O<|.BR O O<|.bd hj1 fun x2 hx2 hj1=>.FB hx2 2 O fun b2 JA=>.BR O O<|.ld JA 0 0 O<|.n 3 O<|.gs 36 hj1 O (fun hj1=>?_) (fun hj1=>?_)
  ·cases hj1;exact .be O<|.hU O (zl [] 2 O)
  refine .n 1 O<|.BR O O<|.bd hj1 fun x3 hx3 hj1=>.FB hx3 3 O fun b3 JY=>.BR O O<|.ld JY 0 0 O ?_;cases hj1;exact .be O<|.hU O (zl [] 3 O)
 refine .cb h O (fun h=>?_) (fun h=>?_)
 ·refine .a 1 O<|.sb 0 0 O<|.bf [2,3] [0] 1 O O<|.AQ (fun _ w=>w.CS (DC zP))<|.AQ (fun _ w=>w.CS (DC zP))<|.AQ (fun _ w=>w.CS (DC zP))<|.AQ (fun _ w=>w.CS (DC AP)) ?_;cases h;exact .rt O Tryz.results43 (.cell O (.tail _ (.tail _ (.tail _ (.tail _ (.head _))))) O (.tmp O .nil)) O ⟨none,0,none,0,none,0,none,0,O,O⟩ (zk 4 6 [1,1,1,0] [] 0 O)
 refine .skip<|.BF<|.AB<|.pr [0,2] O<|.seq<|.region<|.alloc O O fun g2=>.done<|.AB<|.seq<|.a 3 O<|.bS O fun g3=>.b [0,2,4,46,47,48] O<|.block<|.rounds 9<|.round<|.ae O<|.seq<|.EF O<|.sk<|.pr [0,2,4,46,47,48] O<|.seq<|.block<|.a 1 O<|.TB 0 O O O O O O O O O O<|.lb 0 0 O<|.b [0,2,4,5,6,46,47,48] O<|.ab [0,2,4,5,6,46,47,48] O<|.a 3 O<|.bd h fun r2 hr2 h=>.cr 6 [3] [] 0 (pW hr2) Vt O fun A3 c3=>.n 4 O<|.sb 0 2 O<|.b [0,2,4,7,46,47,48] O<|.ab [0,2,4,7,46,47,48,62] O<|.cb h O (fun h=>?_) (fun h=>?_)
 ·refine .a 2 O<|.sb 0 3 O<|.bf [2,3] [0] 4 O O<|.AQ (fun _ w=>w.CS (DC zP))<|.AQ (fun _ w=>w.CS (DC zP))<|.AQ (fun _ w=>w.CS (DC zP))<|.AQ (fun _ w=>w.CS (DC AP)) ?_;cases h;exact .rt O Tryz.results43 (.cell O (.tail _ (.tail _ (.tail _ (.tail _ (.head _))))) O (.tmp O .nil)) O ⟨none,0,none,0,none,0,none,0,O,O⟩ (zk 4 6 [1,1,1,0] [] 0 O)
 refine .skip<|.BF<|.AB<|.pr [0,2,4,46,47,48] O<|.region<|.be O<|.round<|.pr [0,2,4,46,47,48] O<|.ae O<|.seq<|.EF O<|.sk<|.pr [0,2,4,46,47,48] O<|.seq<|.block<|.a 1 O<|.TB 1 O O O O O O O O O O<|.lb 1 2 O<|.b [0,2,4,5,6,46,47,48] O<|.ab [0,2,4,5,6,46,47,48] O<|.a 3 O<|.bd h fun r3 hr3 h=>.cr 7 [4] [] 0 (pW hr3) Vt O fun A4 c4=>.n 4 O<|.sb 4 1 O<|.b [0,2,4,7,46,47,48] O<|.ab [0,2,4,7,46,47,48,62] O<|.cb h O (fun h=>?_) (fun h=>?_)
 ·refine .a 2 O<|.sb 0 4 O<|.bf [2,3] [0] 5 O O<|.AQ (fun _ w=>w.CS (DC zP))<|.AQ (fun _ w=>w.CS (DC zP))<|.AQ (fun _ w=>w.CS (DC zP))<|.AQ (fun _ w=>w.CS (DC AP)) ?_;cases h;exact .rt O Tryz.results43 (.cell O (.tail _ (.tail _ (.tail _ (.tail _ (.head _))))) O (.tmp O .nil)) O ⟨none,0,none,0,none,0,none,0,O,O⟩ (zk 4 6 [1,1,1,0] [] 0 O)
 refine .skip<|.BF<|.AB<|.pr [0,2,4,46,47,48] O<|.region<|.be O<|.round<|.pr [0,2,4,46,47,48] O<|.ae O<|.seq<|.EF O<|.sk<|.pr [0,2,4,46,47,48] O<|.seq<|.block<|.a 1 O<|.TB 2 O O O O O O O O O O<|.lb 2 3 O<|.b [0,2,4,5,6,46,47,48] O<|.ab [0,2,4,5,6,46,47,48] O<|.a 3 O<|.bd h fun r4 hr4 h=>.cr 8 [5] [] 0 (pW hr4) Vt O fun A5 c5=>.n 4 O<|.sb 8 1 O<|.b [0,2,4,7,46,47,48] O<|.ab [0,2,4,7,46,47,48,62] O<|.cb h O (fun h=>?_) (fun h=>?_)
 ·refine .a 2 O<|.sb 0 5 O<|.bf [2,3] [0] 6 O O<|.AQ (fun _ w=>w.CS (DC zP))<|.AQ (fun _ w=>w.CS (DC zP))<|.AQ (fun _ w=>w.CS (DC zP))<|.AQ (fun _ w=>w.CS (DC AP)) ?_;cases h;exact .rt O Tryz.results43 (.cell O (.tail _ (.tail _ (.tail _ (.tail _ (.head _))))) O (.tmp O .nil)) O ⟨none,0,none,0,none,0,none,0,O,O⟩ (zk 4 6 [1,1,1,0] [] 0 O)
 refine .skip<|.BF<|.AB<|.pr [0,2,4,46,47,48] O<|.region<|.be O<|.round<|.pr [0,2,4,46,47,48] O<|.ae O<|.seq<|.FN O<|.xq O<|.AB<|.pf [0,2,4] [0,0,0,0] 1 O O<|.seq<|.bd h fun o2 hj2 h=>.EJ 6 (fun (o3:List Int) (e2:Option Addr × Nat)=>[2,4]) (fun o3 e2=>[.res (zD AP 5 e2.1 e2.2 o3), .res (Box g2 38 [.bool r2.1.CX, .int .u8 r2.1.Code, .int .u32 r2.1.BK, .slice A3 r2.1.Fields.length c3, .bool r3.1.CX, .int .u8 r3.1.Code, .int .u32 r3.1.BK, .slice A4 r3.1.Fields.length c4, .bool r4.1.CX, .int .u8 r4.1.Code, .int .u32 r4.1.BK, .slice A5 r4.1.Fields.length c5, .slice e2.1 o3.length e2.2]),1,2,3,4]) O O (fun o3=>o2= .inr o3) ?_ ?_
 ·refine .a 1 O<|.bd hj2 fun x4 hx4 hj2=>.FB hx4 5 O fun b4 KN=>.ld KN 0 0 O<|.bf [0,2,4,8] [] 1 O O<|.ab [0,2,4,8,74] O<|.cb hj2 O (fun hj2=>?_) (fun hj2=>?_)
  ·refine .a 1 O<|.sb 0 4 O<|.bf [2,3] [0] 5 O O<|.AQ (fun _ w=>w.CS (DC zP))<|.AQ (fun _ w=>w.CS (DC zP))<|.AQ (fun _ w=>w.CS (DC zP))<|.AQ (fun _ w=>w.CS (DC AP)) ?_;cases hj2;have h:some _=some _:=h;cases h;exact .rt O Tryz.results43 (.cell O (.tail _ (.tail _ (.tail _ (.tail _ (.head _))))) O (.tmp O .nil)) O ⟨none,0,none,0,none,0,none,0,O,O⟩ (zk 4 6 [1,1,1,0] [] 0 O)
  refine .ab [0,2,4,8,77] O<|.cb hj2 O (fun hj2=>?_) (fun hj2=>?_)
  ·refine .region<|.n 2 O<|.bd hj2 fun l2 hl2 hj2=>.sub (E:=(DC AP)) O O (zm 5 O) O O O O O O O hl2 fun A7 c7=>.bd hj2 fun r5 JF hj2=>.cr 9 [0] [] 0 (xI JF) YP O fun A8 c8=>.p O O<|.sb 12 2 O<|.done ?_;cases hj2;exact .AB<|.DN r5 (A8,c8) O (zb O) (zl [1,0,1,1,1,1] 2 O)
  refine .skip<|.AQ (fun _ w=>w.EH AP 5) ?_;cases hj2;exact .AB<|.DN ([]) (none,0) O (zb O) (zl [0,0,0,0,0,0] 1 O)
 rintro o3 ⟨A6,c6⟩ ho;subst ho;have h:=IV h;refine .seq<|.seq<|.region<|.lb 0 1 O<|.AQ (fun _ w=>w.CO)<|.bd h fun r6 KZ h=>.cv [4,3,2,0,6] (dZ KZ) zVd O<|.b [2,4,85] O<|.cb h O (fun h=>?_) (fun h=>?_)
 ·refine .a 1 O<|.sb 0 5 O<|.bf [2,3] [0] 5 O O<|.AQ (fun _ w=>w.CS (DC zP))<|.AQ (fun _ w=>w.CS (DC zP))<|.AQ (fun _ w=>w.CS (DC zP))<|.AQ (fun _ w=>w.CS (DC AP)) ?_;cases h;exact .rt O Tryz.results43 (.cell O (.tail _ (.tail _ (.tail _ (.tail _ (.head _))))) O (.tmp O .nil)) O ⟨none,0,none,0,none,0,none,0,O,O⟩ (zk 4 6 [1,1,1,0] [] 0 O)
 refine .sk<|.pr [2,4] O<|.seq<|.region<|.lb 0 1 O<|.sb 0 5 O<|.bf [2,3] [0,0] 1 O O ?_;cases h;exact .rt O Tryz.results43 (.cell O (.head _) O (.tmp O .nil)) O ⟨A3,c3,A4,c4,A5,c5,A6,c6,O,O⟩ (zk 4 6 [4,3,2,1] [] 0 O)
theorem zYW:BV Tryz.prog 44:=en Tryz.func44 (by kernel_rfl)
def oD (DL:wA):Option ByteArray:=
 bnd ((bif DL.Product.CX then (bif decide (4<(DL.Product.Fields.length:Int)) then (bnd (AU DL.Product.Fields 4) fun x1=>some (!(x1.Value.toList==((⟨#[]⟩):ByteArray).toList))) else (some false)) else (some false):Option Bool)) fun o1=>bif o1 then (bnd (AU DL.Product.Fields 4) fun x2=>some x2.Value) else (bnd ((bif DL.Board.CX then (bif decide (2<(DL.Board.Fields.length:Int)) then (bnd (AU DL.Board.Fields 2) fun x3=>some (!(x3.Value.toList==((⟨#[]⟩):ByteArray).toList))) else (some false)) else (some false):Option Bool)) fun o2=>bif o2 then (bnd (AU DL.Board.Fields 2) fun x4=>some x4.Value) else (bnd ((bif DL.CG.CX then (bif decide (1<(DL.CG.Fields.length:Int)) then (bnd (AU DL.CG.Fields 1) fun x5=>some (!(x5.Value.toList==((⟨#[]⟩):ByteArray).toList))) else (some false)) else (some false):Option Bool)) fun o3=>bif o3 then (bnd (AU DL.CG.Fields 1) fun x6=>some x6.Value) else (some (⟨#[]⟩))))
theorem zDq {DL A1 c1 A2 c2 A3 c3 A4 c4 r} (h:oD DL=some r):
    AX Tryz.prog 44 [.agg (jF DL A1 c1 A2 c2 A3 c3 A4 c4).toArray] [.ro (BP zP A1 c1 DL.CG.Fields), .ro (BP zP A2 c2 DL.Board.Fields), .ro (BP zP A3 c3 DL.Product.Fields), .ro (BP AP A4 c4 DL.Multi)] (Val (.string r)):=by
 refine AX.intro Tryz.func44 O O O fun w R=>?_;refine .seq<|.region<|.box O O fun g1=>.b [1] O<|.seq<|.a 1 O<|.lb 8 0 O<|.n 2 O<|.lb 4 0 O<|.n 2 O<|.lb 0 0 O<|.p O O<|.bS O fun g2=>.bf [14,15,16] [0,1,1,1] 2 O O<|.block<|.rounds 9<|.round<|.ae O<|.seq<|.EF O<|.sk<|.pr [14,15,16] O<|.seq<|.block<|.seq<|.region<|.TB 0 O O O O O O O O O O<|.lb 0 0 O<|.alloc O O fun g3=>.sb 0 0 O<|.b [4,14,15,16] O<|.seq<|.bd h fun o1 hj1 h=>.cu 0 [4,14,15,16, .s 42 (.bool o1)] [] O O ?_ ?_
 ·refine .region<|.n 2 O<|.lb 0 0 O<|.p O O<|.gs 23 hj1 O (fun hj1=>?_) (fun hj1=>?_)
  ·refine .n 1 O<|.BR O O<|.lb 4 0 O<|.n 2 O<|.BR O O<|.lb 3 0 O<|.n 4 O<|.gs 32 hj1 O (fun hj1=>?_) (fun hj1=>?_)
   ·refine .n 2 O<|.BR O O<|.lb 3 0 O<|.n 1 O<|.BR O O<|.lb 4 0 O<|.BR O O<|.bd hj1 fun x1 hx1 hj1=>.FB hx1 4 O fun b1 ED=>.n 1 O<|.BR O O<|.ld ED 1 0 O ?_;cases hj1;exact .be O<|.hU O (zl [] 1 O)
   cases hj1;exact .be O<|.hU O zw
  cases hj1;exact .be O<|.hU O zw
 refine .cb h O (fun h=>?_) (fun h=>?_)
 ·refine .a 2 O<|.lb 3 0 O<|.p O O<|.lb 4 0 O<|.bd h fun x2 hx2 h=>.FB hx2 4 O fun b2 JA=>.p O O<|.ld JA 1 0 O<|.bf [2] [] 6 O O ?_;cases h;exact .rv O O ⟨O,O⟩ zw
 refine .skip<|.BF<|.AB<|.pf [14,15,16] [] 1 O O<|.region<|.be O<|.round<|.pr [14,15,16] O<|.ae O<|.seq<|.EF O<|.sk<|.pr [14,15,16] O<|.seq<|.block<|.seq<|.region<|.TB 5 O O O O O O O O O O<|.lb 5 0 O<|.alloc O O fun g4=>.sb 0 0 O<|.b [4,14,15,16] O<|.seq<|.bd h fun o2 hj2 h=>.cu 0 [4,14,15,16, .s 42 (.bool o2)] [] O O ?_ ?_
 ·refine .region<|.n 2 O<|.lb 0 0 O<|.p O O<|.gs 23 hj2 O (fun hj2=>?_) (fun hj2=>?_)
  ·refine .n 1 O<|.BR O O<|.lb 4 0 O<|.n 2 O<|.BR O O<|.lb 3 0 O<|.n 4 O<|.gs 32 hj2 O (fun hj2=>?_) (fun hj2=>?_)
   ·refine .n 2 O<|.BR O O<|.lb 3 0 O<|.n 1 O<|.BR O O<|.lb 4 0 O<|.BR O O<|.bd hj2 fun x3 hx3 hj2=>.FB hx3 3 O fun b3 JY=>.n 1 O<|.BR O O<|.ld JY 1 0 O ?_;cases hj2;exact .be O<|.hU O (zl [] 1 O)
   cases hj2;exact .be O<|.hU O zw
  cases hj2;exact .be O<|.hU O zw
 refine .cb h O (fun h=>?_) (fun h=>?_)
 ·refine .a 2 O<|.lb 3 0 O<|.p O O<|.lb 4 0 O<|.bd h fun x4 hx4 h=>.FB hx4 3 O fun b4 KN=>.p O O<|.ld KN 1 0 O<|.bf [2] [] 6 O O ?_;cases h;exact .rv O O ⟨O,O⟩ zw
 refine .skip<|.BF<|.AB<|.pf [14,15,16] [] 1 O O<|.region<|.be O<|.round<|.pr [14,15,16] O<|.ae O<|.seq<|.EF O<|.sk<|.pr [14,15,16] O<|.seq<|.block<|.seq<|.region<|.TB 10 O O O O O O O O O O<|.lb 10 0 O<|.alloc O O fun g5=>.sb 0 0 O<|.b [4,14,15,16] O<|.seq<|.bd h fun o3 hj3 h=>.cu 0 [4,14,15,16, .s 42 (.bool o3)] [] O O ?_ ?_
 ·refine .region<|.n 2 O<|.lb 0 0 O<|.p O O<|.gs 23 hj3 O (fun hj3=>?_) (fun hj3=>?_)
  ·refine .n 1 O<|.BR O O<|.lb 4 0 O<|.n 2 O<|.BR O O<|.lb 3 0 O<|.n 4 O<|.gs 32 hj3 O (fun hj3=>?_) (fun hj3=>?_)
   ·refine .n 2 O<|.BR O O<|.lb 3 0 O<|.n 1 O<|.BR O O<|.lb 4 0 O<|.BR O O<|.bd hj3 fun x5 hx5 hj3=>.FB hx5 2 O fun b5 NU=>.n 1 O<|.BR O O<|.ld NU 1 0 O ?_;cases hj3;exact .be O<|.hU O (zl [] 1 O)
   cases hj3;exact .be O<|.hU O zw
  cases hj3;exact .be O<|.hU O zw
 refine .cb h O (fun h=>?_) (fun h=>?_)
 ·refine .a 2 O<|.lb 3 0 O<|.p O O<|.lb 4 0 O<|.bd h fun x6 hx6 h=>.FB hx6 2 O fun b6 SI=>.p O O<|.ld SI 1 0 O<|.bf [2] [] 6 O O ?_;cases h;exact .rv O O ⟨O,O⟩ zw
 refine .skip<|.BF<|.AB<|.pf [14,15,16] [] 1 O O<|.region<|.be O<|.round<|.pr [14,15,16] O<|.ae O<|.seq<|.FN O<|.xq O<|.AB<|.pf [] [] 4 O O<|.ae O ?_;cases h;exact .rv O O ⟨O,O⟩ zw
theorem zVO:BV Tryz.prog 17:=en Tryz.func17 (by kernel_rfl)
def uM [AO] (units:(List xN)):Option ((List zG) × Int):=
 bnd (zI (τ:=((List zG) × Int) ⊕ List zG) (fun (s1:List zG × Int)=>bif decide (s1.2<(units.length:Int)) then (bnd (AU units s1.2) fun x1=>bnd (wK x1.Slot) fun r1=>bif !r1 then (some (.done (.inl ([],2)))) else (bnd ((bif decide (s1.2>0) then (bnd (AU units (wrap .i64 (s1.2 - 1))) fun x2=>some (decide (x1.Slot≤x2.Slot))) else (some false):Option Bool)) fun o3=>bif o3 then (some (.done (.inl ([],1)))) else (bnd (nG x1.Data) fun r2=>bnd (oB x1.Data) fun r3=>bif (r3.2==0) then (bnd (oD r3.1) fun r4=>bnd (FY r4 0 (min (r4.size:Int) 23)) fun t1=>bnd (app 40 s1.1 [(⟨x1.Slot,true,t1,r2⟩:zG)]) fun l1=>some (.next (l1,wrap .i64 (s1.2+1)))) else (bnd (app 40 s1.1 [(⟨x1.Slot,false,⟨#[]⟩,r2⟩:zG)]) fun l2=>some (.next (l2,wrap .i64 (s1.2+1))))))) else (some (.done (.inr s1.1)))) ([],0)) fun o1=>wN o1 fun o2=>some (o2,0)
theorem iA [AO] {units A1 c1 r} (h:uM units=some r):
    AX Tryz.prog 17 [.slice A1 units.length c1] [.ro (Sl (yL uG) A1 c1 units), .ro (BP xA (some ⟨0,0,none⟩) 3 ([2,5,7]:List Int))] (fun v F=>∃ A2 c2,v= .tuple #[.slice A2 r.1.length c2, .int .i64 r.2]∧F= [.res (zD vR 134 A2 c2 r.1)]):=by
 refine AX.intro Tryz.func17 O O O fun w R=>?_;refine .ab [0] O<|.ae O<|.seq<|.ae O<|.AQ (fun _ w=>w.EH vR 134)<|.bd h fun o1 hl1 h=>.EJ 2 (fun (o2:List zG) (e2:Option Addr × Nat)=>[.s 4 (.slice e2.1 o2.length e2.2)]) (fun o2 e2=>[.res (zD vR 134 e2.1 e2.2 o2)]) O O (fun o2=>o1= .inr o2) ?_ ?_
 ·refine .block<|.BH hl1 1 (fun (s1:List zG × Int) (e1:Option Addr × Nat)=>[0, .s 4 (.slice e1.1 s1.1.length e1.2),11,12, .s 13 (.int .i64 s1.2)]) (fun s1 e1=>[.res (zD vR 134 e1.1 e1.2 s1.1)]) O O (none,0) (zb O) (fun _ w=>w) ?_;rintro s1 ⟨A2,c2⟩ st1 hm1 hd1 h1;refine .ae O<|.seq<|.cb h1 O (fun h1=>?_) (fun h1=>?_)
  ·refine .sk<|.pr [0,4,11,12,13] O<|.seq<|.block<|.a 1 O<|.bd h1 fun x1 hx1 h1=>.RZ hx1 1 O fun b1 ED JD=>?_;obtain ⟨⟨A4,c4⟩,_⟩:=JD;refine .nm 5 O<|.ld ED 0 0 O<|.alloc O O fun g1=>.p O O<|.sb 0 0 O<|.bf [0,4,5,6,11,12,13] [0] 1 O O<|.seq<|.block<|.a 1 O<|.lb 0 0 O<|.bd h1 fun r1 hr1 h1=>.cv [] (qJ hr1) Jm O<|.b [0,4,5,6,11,12,13,18] O<|.cb h1 O (fun h1=>?_) (fun h1=>?_)
   ·refine .EQ [2,3] [] 4 O O<|.AQ (fun _ w=>w.EH vR 134) ?_;cases h1;cases hd1 _ rfl
    have h:some _=some _:=h;cases h;exact .rv O O ⟨none,0,O,O⟩ (zl [0] 1 O)
   refine .seq<|.bd h1 fun o3 hj1 h1=>.cu 0 [0,4,6,11,12,13, .s 23 (.bool o3)] [] O O ?_ ?_
   ·refine .regionF mixed (by kernel_rfl)<|.n 3 O<|.gs 26 hj1 O (fun hj1=>?_) (fun hj1=>?_)
    ·refine .n 1 O<|.BR O O<|.lb 0 0 O<|.n 3 O<|.BR O O<|.bd hj1 fun x2 hx2 hj1=>.RZ hx2 3 O fun b2 JA SN=>?_;obtain ⟨⟨A5,c5⟩,_⟩:=SN;refine .nm 7 O<|.n 1 O<|.BR O O<|.ld JA 0 0 O ?_;cases hj1;exact .beq O<|.hU O (zl [] 2 O)
    cases hj1;exact .beq O<|.hU O zw
   refine .cb h1 O (fun h1=>?_) (fun h1=>?_)
   ·refine .EQ [2,3] [] 4 O O<|.AQ (fun _ w=>w.EH vR 134) ?_;cases h1;cases hd1 _ rfl
    have h:some _=some _:=h;cases h;exact .rv O O ⟨none,0,O,O⟩ (zl [0] 1 O)
   refine .skip<|.BF<|.AB<|.pr [0,4,6,11,12,13] O<|.seq<|.BG (iN [0,4,8,12,18,20,27,31] .nil) _ mixed (by kernel_rfl) zw<|.yn 1 O<|.yl 0 0 O<|.yn 1 O<|.yl 1 0 O<|.bd h1 fun r2 hr2 h1=>.YC (fun _ h=>h) (zDV hr2) zXZ O O O O (za [1] O)<|.yn 1 O<|.BZ<|.alloc O O fun g2=>.xk (zl [] 1 O)<|.BZ<|.sb 0 0 O<|.xk (zl [] 1 O)<|.BX<|.AB<|.pr [0,4,6,7,11,12,13] O<|.seq<|.a 1 O<|.lb 1 1 O<|.bd h1 fun r3 hr3 h1=>.call (zCP hr3) zYM O O O (zd [2,5] [] 0 O) ?_;rintro _ _ ⟨A6,c6,A7,c7,A8,c8,A9,c9,rfl,rfl⟩;refine .nm 10 O<|.n 3 O<|.alloc O O fun g3=>.sb 0 0 O<|.bf [0,4,7,8,9,11,12,13] [0,0,0,0,0,0] 2 O O<|.ab [0,4,7,8,11,12,13,50] O<|.cb h1 O (fun h1=>?_) (fun h1=>?_)
   ·refine .seq<|.region<|.lb 0 0 O<|.bd h1 fun r4 hr4 h1=>.cv [1,2,3,4] (zDq hr4) zYW O<|.bf [0,4,7,10,11,12,13] [] 5 O O<|.BG (iN [0,4,8,12,16,20,27,28,35] .nil) _ mixed (by kernel_rfl) (zl [] 1 O)<|.yn 4 O<|.bd h1 fun t1 ht1 h1=>.IG (fun _ h=>h) (Rd.FY ht1 O O O O O) O<|.yn 1 O<|.BZ<|.sb 1 0 O<|.xk (zl [] 1 O)<|.yn 1 O<|.BZ<|.sb 2 0 O<|.xk (zl [] 1 O)<|.BX<|.AB<|.pr [0,4,7,11,12,13] O<|.region<|.p O O<|.lb 0 0 O<|.bS O fun g4=>.bd h1 fun l1 hl1 h1=>.app (E:=vR) hl1 O O O (FX 2 O) O O O O O O O O (oP (.head _) O O) O O fun MR c10=>.p O O<|.done<|.BF<|.AB<|.pf [0,4,11,12,13] [0] 2 O O<|.region ?_;cases h1;exact .be O<|.ag (MR,c10) hm1 O zw
   refine .sk<|.pf [0,4,7,11,12,13] [] 5 O O<|.region<|.p O O<|.lb 0 0 O<|.bS O fun g5=>.bd h1 fun l2 hl2 h1=>.app (E:=vR) hl2 O O O (FX 2 O) O O O O O O O O (oP (.head _) O O) O O fun OQ c11=>.p O O<|.done<|.BF<|.AB<|.pf [0,4,11,12,13] [0] 2 O O<|.region ?_;cases h1;exact .be O<|.ag (OQ,c11) hm1 O zw
  refine .xq O ?_;cases h1;cases hd1 _ rfl
  exact .AB<|.DN s1.1 (A2,c2) O (zb O) (zl [0] 1 O)
 rintro o2 ⟨A3,c3⟩ ho;subst ho;have h:=IV h;refine .ab [2,3] O ?_;cases h;exact .rv O O ⟨A3,c3,O,O⟩ (zl [0] 1 O)
theorem Vu:BV Tryz.prog 45:=en Tryz.func45 (by kernel_rfl)
def tL [AO] (BM:(List zG)):Option Bool:=
 bnd (zI (τ:=Bool ⊕ Unit) (fun (s1:Int)=>bif decide (s1<(BM.length:Int)) then (bnd (AU BM s1) fun x1=>bnd ((bnd (wK x1.Slot) fun r1=>bif !r1 then (some true) else (bif decide (s1>0) then (bnd (AU BM (wrap .i64 (s1 - 1))) fun x2=>bif decide (x1.Slot≤x2.Slot) then (some true) else (bif decide ((x1.AV.size:Int)>23) then (some true) else (bif !x1.Good then (some (!(x1.AV.toList==((⟨#[]⟩):ByteArray).toList))) else (some false)))) else (bif decide ((x1.AV.size:Int)>23) then (some true) else (bif !x1.Good then (some (!(x1.AV.toList==((⟨#[]⟩):ByteArray).toList))) else (some false)))):Option Bool)) fun o3=>bif o3 then (some (.done (.inl false))) else (some (.next (wrap .i64 (s1+1))))) else (some (.done (.inr ())))) 0) fun o1=>wN o1 fun o2=>some true
theorem kE [AO] {BM A1 c1 r} (h:tL BM=some r):
    AX Tryz.prog 45 [.slice A1 BM.length c1] [.ro (BP vR A1 c1 BM)] (Val (.bool r)):=by
 refine AX.intro Tryz.func45 O O O fun w R=>?_;refine .ab [0] O<|.seq<|.ae O<|.bd h fun o1 hl1 h=>.EJ 1 (fun (o2:Unit) (e2:Unit)=>[]) (fun o2 e2=>[]) O O (fun o2=>o1= .inr o2) ?_ ?_
 ·refine .block<|.BH hl1 0 (fun (s1:Int) (e1:Unit)=>[0,5,6, .s 7 (.int .i64 s1)]) (fun s1 e1=>[]) O O () (zb O) (fun _ w=>w) ?_;rintro s1 e1 st1 hm1 hd1 h1;refine .ae O<|.seq<|.cb h1 O (fun h1=>?_) (fun h1=>?_)
  ·refine .sk<|.pr [0,5,6,7] O<|.seq<|.block<|.a 1 O<|.bd h1 fun x1 hx1 h1=>.FB hx1 0 O fun b1 ED=>.ld ED 0 0 O<|.alloc O O fun g1=>.p O O<|.sb 0 0 O<|.bf [0,3,4,5,6,7] [0] 1 O O<|.seq<|.bd h1 fun o3 hj1 h1=>.cu 1 [0,5,6,7, .s 46 (.bool o3)] [] O O ?_ ?_
   ·refine .regionF mixed (by kernel_rfl)<|.p O O<|.lb 0 0 O<|.bd hj1 fun r1 hr1 hj1=>.cv [] (qJ hr1) Jm O<|.n 2 O<|.gs 16 hj1 O (fun hj1=>?_) (fun hj1=>?_)
    ·cases hj1;exact .beq O<|.hU O (zl [] 1 O)
    refine .n 3 O<|.gs 19 hj1 O (fun hj1=>?_) (fun hj1=>?_)
    ·refine .n 1 O<|.BR O O<|.lb 0 0 O<|.n 3 O<|.BR O O<|.bd hj1 fun x2 hx2 hj1=>.FB hx2 1 O fun b2 JA=>.n 1 O<|.BR O O<|.ld JA 0 0 O<|.n 4 O<|.gs 31 hj1 O (fun hj1=>?_) (fun hj1=>?_)
     ·cases hj1;exact .beq O<|.hU O (zl [] 2 O)
     refine .n 1 O<|.BR O O<|.lb 2 1 O<|.n 4 O<|.gs 37 hj1 O (fun hj1=>?_) (fun hj1=>?_)
     ·cases hj1;exact .beq O<|.hU O (zl [] 2 O)
     refine .n 1 O<|.BR O O<|.lb 1 1 O<|.n 2 O<|.gs 41 hj1 O (fun hj1=>?_) (fun hj1=>?_)
     ·refine .n 1 O<|.BR O O<|.lb 2 1 O ?_;cases hj1;exact .beq O<|.hU O (zl [] 2 O)
     cases hj1;exact .beq O<|.hU O (zl [] 2 O)
    refine .n 13 O<|.BR O O<|.lb 2 0 O<|.n 4 O<|.gs 37 hj1 O (fun hj1=>?_) (fun hj1=>?_)
    ·cases hj1;exact .beq O<|.hU O (zl [] 1 O)
    refine .n 1 O<|.BR O O<|.lb 1 0 O<|.n 2 O<|.gs 41 hj1 O (fun hj1=>?_) (fun hj1=>?_)
    ·refine .n 1 O<|.BR O O<|.lb 2 0 O ?_;cases hj1;exact .beq O<|.hU O (zl [] 1 O)
    cases hj1;exact .beq O<|.hU O (zl [] 1 O)
   refine .cb h1 O (fun h1=>?_) (fun h1=>?_)
   ·refine .EQ [2] [] 1 O O ?_;cases h1;cases hd1 _ rfl
    have h:some _=some _:=h;cases h;exact .rv O O ⟨O,O⟩ zw
   refine .skip<|.BF<|.AB<|.pr [0,5,6,7] O<|.region ?_;cases h1;exact .be O<|.ag () hm1 O zw
  refine .xq O ?_;cases h1;cases hd1 _ rfl
  exact .AB<|.DN () () O trivial (zl [] 1 O)
 rintro o2 e2 ho;subst ho;have h:=IV h;refine .ae O ?_;cases h;exact .rv O O ⟨O,O⟩ zw
theorem zYI:BV Tryz.prog 93:=en Tryz.func93 (by kernel_rfl)
def nF (IU:zG) (cap0:Int):Option Bool:=
 some (IU.Slot==cap0)
theorem zDP {IU cap0 BN r} (h:nF IU cap0=some r):
    AX Tryz.prog 93 [.agg (bV IU).toArray, .pointer (some ⟨BN,0,none⟩)] [.res (Box BN 3 [.int .i64 cap0])] (fun v F=>v= .bool r∧F= [.res (Box BN 3 [.int .i64 cap0])]):=by
 unfold nF at h
 refine AX.intro Tryz.func93 O O O fun w R=>?_;refine .seq<|.region<|.box O O fun g1=>.b [1,2] O<|.a 1 O<|.lb 0 0 O<|.lb 0 1 O<|.bf [3] [] 1 O O ?_;cases h;exact .rv O O ⟨O,O⟩ zw
theorem zYL:BV Tryz.prog 92:=en Tryz.func92 (by kernel_rfl)
def wP [AO] (AL:(List zG)) (CB:Int):Option Int:=
 bnd (zI (τ:=Int ⊕ Unit) (fun (s1:Int)=>bif decide (s1<(AL.length:Int)) then (bnd (AU AL s1) fun x1=>bnd (nF x1 CB) fun r1=>bif r1 then (some (.done (.inl s1))) else (some (.next (wrap .i64 (s1+1))))) else (some (.done (.inr ())))) 0) fun o1=>wN o1 fun o2=>some (-1)
theorem pF [AO] {AL CB A1 c1 BN r} (h:wP AL CB=some r):
    AX Tryz.prog 92 [.slice A1 AL.length c1, .func (.func 93) #[] #[.pointer (some ⟨BN,0,none⟩)]] [.ro (BP vR A1 c1 AL), .res (Box BN 3 [.int .i64 CB])] (fun v F=>v= .int .i64 r∧F= [.res (Box BN 3 [.int .i64 CB])]):=by
 refine AX.intro Tryz.func92 O O O fun w R=>?_;refine .ab [0,1] O<|.seq<|.ab [0,1,7,8] O<|.bd h fun o1 hl1 h=>.EJ 1 (fun (o2:Unit) (e2:Unit)=>[]) (fun o2 e2=>[]) O O (fun o2=>o1= .inr o2) ?_ ?_
 ·refine .block<|.BH hl1 0 (fun (s1:Int) (e1:Unit)=>[0,1,7, .s 8 (.int .i64 s1)]) (fun s1 e1=>[]) O O () (zb O) (fun _ w=>w) ?_;rintro s1 e1 st1 hm1 hd1 h1;refine .ae O<|.seq<|.cb h1 O (fun h1=>?_) (fun h1=>?_)
  ·refine .sk<|.pr [0,1,7,8] O<|.seq<|.block<|.ab [0,1,5,7,8] O<|.a 3 O<|.bd h1 fun x1 hx1 h1=>.FB hx1 0 O fun b1 ED=>.ld ED 0 0 O<|.bd h1 fun r1 hr1 h1=>.NC (args:= [.agg (bV x1).toArray]) (us:= [.pointer (some ⟨BN,0,none⟩)]) (zDP hr1) zYI O O O (zl [2] 0 O) ?_;rintro _ _ ⟨rfl,rfl⟩;refine .nm 3 O<|.bf [0,1,5,7,8,16] [0] 1 O O<|.cb h1 O (fun h1=>?_) (fun h1=>?_)
   ·refine .EQ [4] [0] 1 O O ?_;cases h1;cases hd1 _ rfl
    have h:some _=some _:=h;cases h;exact .rv O O ⟨O,O⟩ zw
   refine .skip<|.BF<|.AB<|.pr [0,1,7,8] O<|.region ?_;cases h1;exact .be O<|.ag () hm1 O (zl [1] 0 O)
  refine .xq O ?_;cases h1;cases hd1 _ rfl
  exact .AB<|.DN () () O trivial (zl [] 1 O)
 rintro o2 e2 ho;subst ho;have h:=IV h;refine .ae O ?_;cases h;exact .rv O O ⟨O,O⟩ zw
theorem Vw:BV Tryz.prog 46:=en Tryz.func46 (by kernel_rfl)
def qQ [AO] (BM:(List zG)) (slot:Int):Option (zG × Bool):=
 bnd (wP BM slot) fun r1=>bif decide (r1<0) then (some ((⟨0,false,⟨#[]⟩,0⟩:zG),false)) else (bnd (AU BM r1) fun x1=>some (x1,true))
theorem gL [AO] {BM slot A1 c1 r} (h:qQ BM slot=some r):
    AX Tryz.prog 46 [.slice A1 BM.length c1, .int .i64 slot] [.ro (BP vR A1 c1 BM)] (Val (.tuple #[.agg (bV r.1).toArray, .bool r.2])):=by
 refine AX.intro Tryz.func46 O O O fun w R=>?_;refine .seq<|.region<|.box O O fun g1=>.alloc O O fun g2=>.b [0,3,4] O<|.a 2 O<|.bd h fun r1 hr1 h=>.cq 3 [2] [1] 0 (pF hr1) zYL O<|.bf [0,4,6] [] 1 O O<|.seq<|.ab [0,4,6,11] O<|.cb h O (fun h=>?_) (fun h=>?_)
 ·refine .a 1 O<|.sb 0 0 O<|.bf [4,5] [0] 1 O O ?_;cases h;exact .rt O Tryz.results46 (.cell O (.head _) O (.tmp O .nil)) O ⟨O,O⟩ (zl [] 1 O)
 refine .sk<|.pr [0,4,6] O<|.a 2 O<|.bd h fun x1 hx1 h=>.FB hx1 1 O fun b1 ED=>.ld ED 0 0 O<|.sb 0 1 O<|.bf [4,5] [0] 2 O O ?_;cases h;exact .rt O Tryz.results46 (.cell O (.head _) O (.tmp O .nil)) O ⟨O,O⟩ (zl [] 1 O)
theorem zVg:BV Tryz.prog 18:=en Tryz.func18 (by kernel_rfl)
def qW [AO] (BM:(List zG)):Option ((List zB) × Int):=
 bnd (tL BM) fun r1=>bif !r1 then (some ([],1)) else (bnd (zI (τ:=List zB) (fun (s1:List zB × Int)=>bif decide (s1.2<16) then (bnd (qQ BM s1.2) fun r2=>bif r2.2 then (bnd ((bif r2.1.Good then (some 1) else (some 0):Option Int)) fun o2=>bnd (app 1 ([o2,wrap .u8 r2.1.Sum,wrap .u8 (xP .u32 r2.1.Sum 8),wrap .u8 (xP .u32 r2.1.Sum 16),wrap .u8 (xP .u32 r2.1.Sum 24)]) (pN r2.1.AV)) fun l1=>bnd (app 40 s1.1 [(⟨wrap .u8 (wrap .i64 (16+s1.2)),l1,false⟩:zB)]) fun l2=>some (.next (l2,wrap .i64 (s1.2+1)))) else (bnd (app 40 s1.1 [(⟨wrap .u8 (wrap .i64 (16+s1.2)), [],true⟩:zB)]) fun l3=>some (.next (l3,wrap .i64 (s1.2+1))))) else (some (.done s1.1))) ([],0)) fun o1=>some (o1,0))
theorem cE [AO] {BM A1 c1 r} (h:qW BM=some r):
    AX Tryz.prog 18 [.slice A1 BM.length c1] [.ro (BP vR A1 c1 BM)] (fun v F=>∃ A2 c2,v= .tuple #[.slice A2 r.1.length c2, .int .i64 r.2]∧F= [.res (uD (yL yC) 140 A2 c2 r.1)]):=by
 refine AX.intro Tryz.func18 O O O fun w R=>?_;refine .ab [0] O<|.seq<|.a 1 O<|.bd h fun r1 hr1 h=>.cv [0] (kE hr1) Vu O<|.b [0,12] O<|.cb h O (fun h=>?_) (fun h=>?_)
 ·refine .EQ [2,3] [] 1 O O<|.AQ (fun _ w=>w.LP (yL yC) 140) ?_;cases h;exact .rv O O ⟨none,0,O,O⟩ zw
 refine .sk<|.pr [0] O<|.ae O<|.seq<|.ae O<|.AQ (fun _ w=>w.LP (yL yC) 140)<|.bd h fun o1 hl1 h=>.DZ 2 (fun (e2:Option Addr × Nat)=>[.s 4 (.slice e2.1 o1.length e2.2)]) (fun e2=>[.res (uD (yL yC) 140 e2.1 e2.2 o1)]) O O ?_ ?_
 ·refine .block<|.BH hl1 1 (fun (s1:List zB × Int) (e1:Option Addr × Nat)=>[0, .s 4 (.slice e1.1 s1.1.length e1.2), .s 13 (.int .i64 s1.2)]) (fun s1 e1=>[.res (uD (yL yC) 140 e1.1 e1.2 s1.1)]) O O (none,0) (zb O) (fun _ w=>w) ?_;rintro s1 ⟨A2,c2⟩ st1 hm1 hd1 h1;refine .ae O<|.seq<|.cb h1 O (fun h1=>?_) (fun h1=>?_)
  ·refine .sk<|.pr [0,4,13] O<|.seq<|.block<|.ab [0,4,5,13] O<|.a 4 O<|.alloc O O fun g1=>.sb 0 0 O<|.b [0,4,5,6,13] O<|.seq<|.a 2 O<|.bd h1 fun r2 hr2 h1=>.cv [2] (gL hr2) Vw O<|.n 3 O<|.alloc O O fun g2=>.sb 0 0 O<|.b [0,4,6,7,8,13] O<|.ab [0,4,6,7,13,26] O<|.cb h1 O (fun h1=>?_) (fun h1=>?_)
   ·refine .ab [0,4,6,7,9,13] O<|.seq<|.bd h1 fun o2 hj1 h1=>.cu 0 [0,4,6,7, .s 9 (.int .u8 o2),13] [] O O ?_ ?_
    ·refine .a 1 O<|.lb 1 0 O<|.b [0,4,6,7,9,13,28] O<|.cb hj1 O (fun hj1=>?_) (fun hj1=>?_)
     ·refine .region ?_;cases hj1;exact .be O<|.hU O zw
     cases hj1;exact .sk<|.hU O zw
    refine .a 2 O<|.lb 3 0 O<|.n 2 O<|.lb 3 0 O<|.n 3 O<|.lb 3 0 O<|.n 3 O<|.lb 3 0 O<|.n 2 O<|.bS O fun g3=>.p O O<|.lb 2 1 O<|.AQ (fun _ w=>w.IB (E:=AP) (e:=5) [o2,wrap .u8 r2.1.Sum,wrap .u8 (xP .u32 r2.1.Sum 8),wrap .u8 (xP .u32 r2.1.Sum 16),wrap .u8 (xP .u32 r2.1.Sum 24)] O O)<|.bd h1 fun l1 hl1 h1=>.app (E:=AP) hl1 O O O .z O O O O O O O (by simp [pN,ByteArray.toList_eq]) (zYY r2.1.AV) O O fun A4 c4=>.p O O<|.sb 1 2 O<|.bf [0,4,6,13] [0,0] 1 O O<|.region<|.p O O<|.sb 2 0 O<|.b [0,4,6,13] O<|.region<|.p O O<|.lb 0 0 O<|.bS O fun g4=>.bd h1 fun l2 hl2 h1=>.AQ (fun _ w=>(w.sl [2] 0 O).CO)<|.NQ (E:=(yL yC)) hl2 O O O (FX 3 O) O O O O O O O O (zf (ls:=yC) [((⟨wrap .u8 (wrap .i64 (16+s1.2)),l1,false⟩:zB),((A4,c4),()))] EI O O O ⟨(.head _),trivial⟩) O O fun A5 c5=>.p O O<|.done<|.BF<|.AB<|.pf [0,4,13] [0] 3 O O<|.region ?_;cases h1;exact .be O<|.ag (A5,c5) hm1 O zw
   refine .sk<|.pf [0,4,6,13] [] 1 O O<|.region<|.p O O<|.lb 0 0 O<|.bS O fun g5=>.bd h1 fun l3 hl3 h1=>.AQ (fun _ w=>w.CS (DC AP))<|.NQ (E:=(yL yC)) hl3 O O O (FX 3 O) O O O O O O O O (zf (ls:=yC) [((⟨wrap .u8 (wrap .i64 (16+s1.2)), [],true⟩:zB),((none,0),()))] EI O O O ⟨(.head _),trivial⟩) O O fun A6 c6=>.p O O<|.done<|.BF<|.AB<|.pf [0,4,13] [0] 3 O O<|.region ?_;cases h1;exact .be O<|.ag (A6,c6) hm1 O zw
  refine .xq O ?_;cases h1;cases hd1 _ rfl
  exact .AB<|.hE (A2,c2) O (zl [0] 1 O)
 rintro ⟨A3,c3⟩;refine .ab [2,3] O ?_;cases h;exact .rv O O ⟨A3,c3,O,O⟩ zw
theorem zYm:BV Tryz.prog 48:=en Tryz.func48 (by kernel_rfl)
def nK [AO] (BM:(List zB)):Option Int:=
 bif decide ((BM.length:Int)>32) then (some 3) else (bnd (zI (τ:=Int ⊕ ((List (Int × Bool)))) (fun (s1:Int × (List (Int × Bool)))=>bif decide (s1.1<(BM.length:Int)) then (bnd (AU BM s1.1) fun x1=>bnd ((bif decide ((x1.Value.length:Int)>28) then (some true) else (bif x1.Delete then (some (decide ((x1.Value.length:Int)>0))) else (some false)):Option Bool)) fun o3=>bif o3 then (some (.done (.inl 1))) else (bif (uA (xE .u8).eq s1.2 x1.Key).getD false then (some (.done (.inl 7))) else (some (.next (wrap .i64 (s1.1+1),pG (xE .u8).eq s1.2 x1.Key true))))) else (some (.done (.inr s1.2)))) (0, [])) fun o1=>wN o1 fun o2=>some 0)
theorem zEC [AO] {BM A1 c1 r} (h:nK BM=some r):
    AX Tryz.prog 48 [.slice A1 BM.length c1] [.ro (Sl (yL yC) A1 c1 BM)] (Val (.int .i64 r)):=by
 refine AX.intro Tryz.func48 O O O fun w R=>?_;refine .ab [0] O<|.seq<|.ab [0,8] O<|.cb h O (fun h=>?_) (fun h=>?_)
 ·refine .EQ [2] [] 1 O O ?_;cases h;exact .rv O O ⟨O,O⟩ zw
 refine .sk<|.pr [0] O<|.seq<|.region<|.makeMap (K:=(xE .u8)) (vv:=(fun x=>.bool x)) O fun g1=>.b [0,3] O<|.seq<|.ab [3,10,11,12] O<|.bd h fun o1 hl1 h=>.EJ 2 (fun (o2:(List (Int × Bool))) (e2:Unit)=>[]) (fun o2 e2=>[]) O O (fun o2=>o1= .inr o2) ?_ ?_
 ·refine .block<|.BH hl1 1 (fun (s1:Int × (List (Int × Bool))) (e1:Unit)=>[3,10,11, .s 12 (.int .i64 s1.1)]) (fun s1 e1=>[.res (jY (xE .u8) (fun x=>.bool x) g1 s1.2)]) O O () (zb O) (fun _ w=>w) ?_;rintro s1 e1 st1 hm1 hd1 h1;refine .ae O<|.seq<|.cb h1 O (fun h1=>?_) (fun h1=>?_)
  ·refine .sk<|.pr [3,10,11,12] O<|.seq<|.block<|.seq<|.region<|.bd h1 fun x1 hx1 h1=>.RZ hx1 1 O fun b1 ED JD=>?_;obtain ⟨⟨A2,c2⟩,_⟩:=JD;refine .nm 4 O<|.ld ED 0 0 O<|.alloc O O fun g2=>.sb 0 0 O<|.bf [3,5,10,11,12] [0] 1 O O<|.seq<|.block<|.seq<|.bd h1 fun o3 hj1 h1=>.cu 0 [3,5,10,11,12, .s 16 (.bool o3)] [] O O ?_ ?_
   ·refine .region<|.p O O<|.lb 1 0 O<|.n 3 O<|.gs 21 hj1 O (fun hj1=>?_) (fun hj1=>?_)
    ·cases hj1;exact .be O<|.hU O zw
    refine .n 1 O<|.BR O O<|.lb 2 0 O<|.n 1 O<|.gs 24 hj1 O (fun hj1=>?_) (fun hj1=>?_)
    ·refine .n 1 O<|.BR O O<|.lb 1 0 O ?_;cases hj1;exact .be O<|.hU O zw
    cases hj1;exact .be O<|.hU O zw
   refine .cb h1 O (fun h1=>?_) (fun h1=>?_)
   ·refine .EQ [2] [] 4 O O ?_;cases h1;cases hd1 _ rfl
    have h:some _=some _:=h;cases h;exact .rv O O ⟨O,O⟩ zw
   refine .a 2 O<|.lb 0 0 O<|.lookup (K:=(xE .u8)) (vv:=(fun x=>.bool x)) (u:=.bool ((uA (xE .u8).eq s1.2 x1.Key).getD false)) false x1.Key O O O (zm 2 O) O O O O O O O<|.b [3,5,10,11,12,31] O<|.cb h1 O (fun h1=>?_) (fun h1=>?_)
   ·refine .EQ [2] [] 4 O O ?_;cases h1;cases hd1 _ rfl
    have h:some _=some _:=h;cases h;exact .rv O O ⟨O,O⟩ zw
   refine .skip<|.BF<|.AB<|.pr [3,5,10,11,12] O<|.region<|.n 2 O<|.lb 0 0 O<|.mapUpdate (K:=(xE .u8)) (vv:=(fun x=>.bool x)) x1.Key true O O O (FX 2 O) O O O O<|.done<|.BF<|.AB<|.pf [3,10,11,12] [0] 2 O O<|.region ?_;cases h1;exact .be O<|.ag () hm1 O zw
  refine .xq O ?_;cases h1;cases hd1 _ rfl
  exact .AB<|.DN s1.2 () O trivial (zl [] 2 O)
 rintro o2 e2 ho;subst ho;have h:=IV h;refine .ae O ?_;cases h;exact .rv O O ⟨O,O⟩ zw
theorem zVb:BV Tryz.prog 50:=en Tryz.func50 (by kernel_rfl)
def rQ [AO] (BM:(List zB)):Option (List Int):=
 bnd (zI (τ:=List Int) (fun (s1:List Int × Int)=>bif decide (s1.2<(BM.length:Int)) then (bnd (AU BM s1.2) fun x1=>bif x1.Delete then (bnd (app 1 s1.1 [x1.Key,128]) fun l1=>some (.next (l1,wrap .i64 (s1.2+1)))) else (bnd (app 1 s1.1 [x1.Key,wrap .u8 (x1.Value.length:Int)]) fun l2=>bnd (app 1 l2 x1.Value) fun l3=>some (.next (l3,wrap .i64 (s1.2+1))))) else (some (.done s1.1))) ([wrap .u8 (BM.length:Int)],0)) fun o1=>bnd (app 1 o1 [0]) fun l4=>some l4
theorem fS [AO] {BM A1 c1 r} (h:rQ BM=some r):
    AX Tryz.prog 50 [.slice A1 BM.length c1] [.ro (Sl (yL yC) A1 c1 BM)] (fun v F=>∃ A2 c2,v= .slice A2 r.length c2∧F= [.res (zD AP 5 A2 c2 r)]):=by
 refine AX.intro Tryz.func50 O O O fun w R=>?_;refine .ab [0] O<|.a 3 O<|.bS O fun g1=>.b [0,3] O<|.seq<|.ab [3,10,11,12] O<|.AQ (fun _ w=>w.IB (E:=AP) (e:=5) [wrap .u8 (BM.length:Int)] O O)<|.bd h fun o1 hl1 h=>.DZ 2 (fun (e2:Option Addr × Nat)=>[.s 3 (.slice e2.1 o1.length e2.2)]) (fun e2=>[.res (zD AP 5 e2.1 e2.2 o1)]) O O ?_ ?_
 ·refine .block<|.BH hl1 1 (fun (s1:List Int × Int) (e1:Option Addr × Nat)=>[.s 3 (.slice e1.1 s1.1.length e1.2),10,11, .s 12 (.int .i64 s1.2)]) (fun s1 e1=>[.res (zD AP 5 e1.1 e1.2 s1.1)]) O O ((some ⟨g1,0,none⟩),([wrap .u8 (BM.length:Int)]:List Int).length) (zb O) (fun _ w=>w) ?_;rintro s1 ⟨A2,c2⟩ st1 hm1 hd1 h1;refine .ae O<|.seq<|.cb h1 O (fun h1=>?_) (fun h1=>?_)
  ·refine .sk<|.pr [3,10,11,12] O<|.seq<|.block<|.seq<|.region<|.bd h1 fun x1 hx1 h1=>.RZ hx1 1 O fun b1 ED JD=>?_;obtain ⟨⟨A4,c4⟩,_⟩:=JD;refine .nm 4 O<|.ld ED 0 0 O<|.alloc O O fun g2=>.sb 0 0 O<|.bf [3,5,10,11,12] [0] 1 O O<|.a 1 O<|.lb 2 0 O<|.b [3,5,10,11,12,17] O<|.cb h1 O (fun h1=>?_) (fun h1=>?_)
   ·refine .region<|.n 2 O<|.lb 0 0 O<|.bS O fun g3=>.bd h1 fun l1 hl1 h1=>.app (E:=AP) hl1 O O O (FX 3 O) O O O O O O O O (oP (.head _) O O) O O fun A5 c5=>.p O O<|.done<|.BF<|.AB<|.pf [3,10,11,12] [0] 3 O O<|.region ?_;cases h1;exact .be O<|.ag (A5,c5) hm1 O zw
   refine .BG (iN [0,4,9,12,17,20,24,36,40,31,35,47,48] .nil) _ mixed (by kernel_rfl) (zl [0,0] 1 O)<|.yn 2 O<|.yx 0 0 O<|.yn 1 O<|.yx 1 0 O<|.yn 3 O<|.yl 1 0 O<|.BZ<|.bS O fun g4=>.xk (zl [1,1] 2 O)<|.BZ<|.bd h1 fun l2 hl2 h1=>.app (E:=AP) hl2 O O O (FX 3 O) O O O O O O O O (oP (.head _) O O) O O fun A6 c6=>.xk (zl [] 2 O)<|.BZ<|.bd h1 fun l3 hl3 h1=>.app (E:=AP) hl3 O O O .z O O O O O O O O (OB Nu) O O fun A7 c7=>.xk (zl [] 2 O)<|.yn 1 O<|.BX<|.BF<|.AB<|.pf [3,10,11,12] [0] 3 O O<|.region ?_;cases h1;exact .be O<|.ag (A7,c7) hm1 O zw
  refine .xq O ?_;cases h1;cases hd1 _ rfl
  exact .AB<|.hE (A2,c2) O (zl [0] 1 O)
 rintro ⟨A3,c3⟩;refine .a 1 O<|.bS O fun g5=>.bd h fun l4 hl4 h=>.app (E:=AP) hl4 O O O (.s .z) O O O O O O O O (oP (.head _) O O) O O fun A8 c8=>.bf [2] [0] 1 O O ?_;cases h;exact .rv O O ⟨A8,c8,O,O⟩ zw
theorem zVB:BV Tryz.prog 53:=en Tryz.func53 (by kernel_rfl)
def wS [AO] (KO:(Option (List (Int × (List Int))))):Option (List zB):=
 bnd (Uk KO) fun r1=>bnd (iV KO) fun r2=>bnd (zI (τ:=List zB) (fun (s1:List zB × Int)=>bif decide (s1.2<(r2.length:Int)) then (bnd (AU r2 s1.2) fun x1=>bnd (zR ((uA (xE .u8).eq (KO.getD []) x1).getD [])) fun r3=>bnd (app 40 s1.1 [(⟨x1,r3,false⟩:zB)]) fun l1=>some (.next (l1,wrap .i64 (s1.2+1)))) else (some (.done s1.1))) ([],0)) fun o1=>some o1
theorem nO [AO] {KO M1 r} (h:wS KO=some r):
    AX Tryz.prog 53 [.map M1] [.res (yZ (xE .u8) (DC AP) M1 KO)] (fun v F=>∃ A1 c1,v= .slice A1 r.length c1∧F= [.res (yZ (xE .u8) (DC AP) M1 KO), .res (uD (yL yC) 140 A1 c1 r)]):=by
 refine AX.intro Tryz.func53 O O O fun w R=>?_;refine .ab [0] O<|.ae O<|.seq<|.a 1 O<|.bd h fun r1 hr1 h=>.call (zPi hr1) zYs O O O (fun _ w=>w) ?_;rintro _ _ ⟨g1,rfl,rfl⟩;refine .nm 2 O<|.bd h fun r2 hr2 h=>.cr 3 [] [] 0 (zKB hr2) zYU O fun A1 c1=>.bf [0,3,8,9,10] [] 1 O O<|.AQ (fun _ w=>w.LP (yL yC) 140)<|.bd h fun o1 hl1 h=>.DZ 3 (fun (e2:Option Addr × Nat)=>[.s 3 (.slice e2.1 o1.length e2.2)]) (fun e2=>[.res (uD (yL yC) 140 e2.1 e2.2 o1),1]) O O ?_ ?_
 ·refine .block<|.BH hl1 1 (fun (s1:List zB × Int) (e1:Option Addr × Nat)=>[0, .s 3 (.slice e1.1 s1.1.length e1.2),8,9, .s 10 (.int .i64 s1.2)]) (fun s1 e1=>[.res (uD (yL yC) 140 e1.1 e1.2 s1.1)]) O O (none,0) (zb O) (fun _ w=>w) ?_;rintro s1 ⟨A2,c2⟩ st1 hm1 hd1 h1;refine .ae O<|.seq<|.cb h1 O (fun h1=>?_) (fun h1=>?_)
  ·refine .sk<|.pr [0,3,8,9,10] O<|.seq<|.block<|.seq<|.region<|.bd h1 fun x1 hx1 h1=>.II hx1 2 O fun g2 hA=>?_;subst hA;refine .EZ 0 hx1 O O (zm 2 O) O O<|.b [0,3,5,8,9,10] O<|.region<|.n 4 O<|.XE (K:=(xE .u8)) (E:=(DC AP)) x1 O O O EI O O O O O O fun A4 c4=>.bd h1 fun r3 hr3 h1=>.cr 5 [0] [] 0 (xI hr3) YP O fun A5 c5=>.p O O<|.bS O fun g3=>.bd h1 fun l1 hl1 h1=>.AQ (fun _ w=>(w.sl [1] 0 O).CO)<|.NQ (E:=(yL yC)) hl1 O O O (FX 3 O) O O O O O O O O (zf (ls:=yC) [((⟨x1,r3,false⟩:zB),((A5,c5),()))] EI O O O ⟨(.head _),trivial⟩) O O fun A6 c6=>.p O O<|.done<|.BF<|.AB<|.pf [0,3,8,9,10] [0] 3 O O<|.region ?_;cases h1;exact .be O<|.ag (A6,c6) hm1 O zw
  refine .xq O ?_;cases h1;cases hd1 _ rfl
  exact .AB<|.hE (A2,c2) O (zl [0,0] 1 O)
 rintro ⟨A3,c3⟩;refine .ab [2] O ?_;cases h;exact .rv O O ⟨A3,c3,O,O⟩ (zl [1] 0 O)
theorem zYS:BV Tryz.prog 52:=en Tryz.func52 (by kernel_rfl)
def uX [AO] (AL:yD) (next:(Option (List (Int × (List Int))))) (EG:zA):Option (yD × zA × Int):=
 bif (AL.generation==2147483648) then (some (AL,EG,3)) else (bnd ((bif (AL.active==0) then (some 1) else (some 0):Option Int)) fun o1=>bnd (iZ AL.d) fun bb1=>bnd (zK EG) fun r1=>bnd (iZ AL.d) fun bb2=>bnd (zK EG) fun r2=>bnd (xU EG (wrap .i64 ((wrap .i64 (AL.first+o1))*r1)) r2) fun r3=>bnd ((bnd ((bif (r3.2.2==0) then (bnd (sN r3.2.1) fun r4=>some (!r4)) else (some false):Option Bool)) fun o3=>bif o3 then (bnd (iZ AL.d) fun bb3=>bnd (tD r3.1 (wrap .i64 (AL.first+o1))) fun r5=>some (r5.2,r5.1)) else (some (r3.2.2,r3.1)):Option (Int × zA))) fun o2=>bnd ((bif (o2.1==0) then (bnd (iZ AL.d) fun Vj=>bnd (yJ o2.2 (wrap .i64 ((wrap .i64 (AL.first+o1))*r1)) ([wrap .u8 (wrap .i64 (AL.generation+1)),wrap .u8 (xP .i64 (wrap .i64 (AL.generation+1)) 8),wrap .u8 (xP .i64 (wrap .i64 (AL.generation+1)) 16),wrap .u8 (xP .i64 (wrap .i64 (AL.generation+1)) 24)])) fun r6=>some (r6.2,r6.1)) else (some (o2.1,o2.2)):Option (Int × zA))) fun o4=>bnd ((bnd ((bif (o4.1==0) then (some (decide ((((next.getD []).length:Nat):Int)>0))) else (some false):Option Bool)) fun o6=>bif o6 then (bnd (wS next) fun r7=>bnd (rQ r7) fun r8=>bnd (iZ AL.d) fun Vk=>bnd (yJ o4.2 (wrap .i64 ((wrap .i64 ((wrap .i64 (AL.first+o1))*r1))+5)) r8) fun r9=>some (wrap .i64 (5+(r8.length:Int)),r9.2,r9.1)) else (some (5,o4.1,o4.2)):Option (Int × Int × zA))) fun o5=>bnd ((bif (o5.2.1==0) then (bnd (iZ AL.d) fun bb6=>bnd (yJ o5.2.2 (wrap .i64 ((wrap .i64 ((wrap .i64 (AL.first+o1))*r1))+4)) ([0])) fun r10=>some (r10.2,r10.1)) else (some (o5.2.1,o5.2.2)):Option (Int × zA))) fun o7=>bif (o7.1==0) then (some ((⟨AL.d,AL.first,o1,wrap .i64 (AL.generation+1),next,o5.1,true,AL.ended⟩:yD),o7.2,o7.1)) else (some (AL,o7.2,o7.1)))
theorem zAh [AO] {AL next EG A1 c1 A2 c2 M1 M2 BN ES r} (h:uX AL next EG=some r):
    AX Tryz.prog 52 [.pointer (some ⟨BN,0,none⟩), .map M2] [.res (Box BN 116 (pM AL ES M1)), .res (yZ (xE .u8) (DC AP) M1 AL.all), .res (yZ (xE .u8) (DC AP) M2 next), .res (Box ES 112 (zJ EG A1 c1 A2 c2)), .res (zD AP 5 A1 c1 EG.bytes), .res (zD xA 3 A2 c2 EG.AY)] (fun v F=>∃ M3 A3 c3 A4 c4,v= .int .i64 r.2.2∧F= [.res (Box BN 116 (pM r.1 ES M3)), .res (yZ (xE .u8) (DC AP) M3 r.1.all), .res (Box ES 112 (zJ r.2.1 A3 c3 A4 c4)), .res (zD AP 5 A3 c3 r.2.1.bytes), .res (zD xA 3 A4 c4 r.2.1.AY)]):=by
 refine AX.intro Tryz.func52 O O O fun w R=>?_;refine .ab [0,1] O<|.seq<|.a 3 O<|.lb 3 0 O<|.b [0,1,16] O<|.cb h O (fun h=>?_) (fun h=>?_)
 ·refine .ab [4] O ?_;cases h;exact .rv O O ⟨M1,A1,c1,A2,c2,O,O⟩ (zl [0,0] 1 O)
 refine .sk<|.pr [0,1] O<|.seq<|.regionF mixed (by kernel_rfl)<|.n 3 O<|.lb 3 0 O<|.bq [0,1,5,6,7] O<|.seq<|.bd h fun o1 hj1 h=>.cu 0 [0,1, .s 5 (.int .i64 o1),6,7] [] O O ?_ ?_
 ·refine .a 3 O<|.lb 2 0 O<|.b [0,1,5,6,7,26] O<|.cb hj1 O (fun hj1=>?_) (fun hj1=>?_)
  ·refine .region ?_;cases hj1;exact .be O<|.hU O zw
  cases hj1;exact .sk<|.hU O zw
 refine .seq<|.BG (iN [0,4,8,12,16,20,24,28,32,37,43,44,48] .nil) _ mixed (by kernel_rfl) zw<|.yn 3 O<|.yl 1 0 O<|.yn 5 O<|.yx 0 0 O<|.BZ<|.bd h fun bb1 NW h=>?_;refine .ss 36 (rX NW)<|.bd h fun r1 hr1 h=>.cq 6 [] [3,3,3] 0 (yR hr1) dK O<|.xk (zl [3,3,3] 0 O)<|.yn 2 O<|.BX<|.AB<|.pr [0,1,5,6,7,8] O<|.seq<|.BG (iN [0,4,8,12,16,20,24,28,33,39,43,44,48,52,56,60] .nil) _ mixed (by kernel_rfl) (zl [] 3 O)<|.yn 3 O<|.yl 0 0 O<|.yn 4 O<|.yx 0 3 O<|.BZ<|.bd h fun bb2 NY h=>?_;refine .ss 43 (rX NY) ?_;refine .ss 48 (rX NY)<|.bd h fun r2 hr2 h=>.cq 6 [] [] 0 (yR hr2) dK O<|.xk (zl [] 3 O)<|.BZ<|.bd h fun r3 hr3 h=>.call (qI hr3) Jj O O O (fun _ w=>w) ?_;rintro _ _ ⟨A3,c3,A4,c4,A5,c5,rfl,rfl⟩;refine .nm 7 O<|.xk (zl [] 4 O)<|.yn 5 O<|.BX<|.AB<|.pr [0,1,5,6,7,8,9,10] O<|.seq<|.bd h fun o2 hj2 h=>.DZ 4 (fun (e2:Option Addr × Nat × Option Addr × Nat)=>[0,1,5,6,7,8, .s 10 (.int .i64 o2.1)]) (fun e2=>[.res (zD xA 3 e2.2.2.1 e2.2.2.2 o2.2.AY), .res (zD AP 5 e2.1 e2.2.1 o2.2.bytes), .res (Box ES 112 (zJ o2.2 e2.1 e2.2.1 e2.2.2.1 e2.2.2.2))]) O O ?_ ?_
 ·refine .seq<|.bd hj2 fun o3 hj3 hj2=>.cu 4 [0,1,5,6,7,8,10, .s 59 (.bool o3)] [0,1,2] O O ?_ ?_
  ·refine .region<|.n 3 O<|.gs 55 hj3 O (fun hj3=>?_) (fun hj3=>?_)
   ·refine .n 1 O<|.BR O O<|.AQ (fun _ w=>(w.sl [3] 0 O).CO)<|.bd hj3 fun r4 hr4 hj3=>.cv [0] (cI hr4) zVh O ?_;cases hj3;exact .be O<|.hU O (zl [] 1 O)
   cases hj3;exact .be O<|.hU O (zl [0,0,0] 1 O)
  refine .cb hj2 O (fun hj2=>?_) (fun hj2=>?_)
  ·refine .BG (iN [0,4,8,13,16,20,24,29,32,36,43,44] .nil) _ mixed (by kernel_rfl) (zl [] 3 O)<|.yn 3 O<|.yx 0 3 O<|.yn 3 O<|.yx 1 3 O<|.yn 2 O<|.BZ<|.bd hj2 fun bb3 OT hj2=>?_;refine .ss 63 (rX OT)<|.bd hj2 fun r5 JF hj2=>.ct 6 [] [] 0 (jL JF) zVK O fun A8 c8 A9 c9=>.xk (zl [] 3 O)<|.yn 1 O<|.BX ?_;cases hj2;exact .AB<|.hE (A8,c8,A9,c9) O (zl [2,1] 0 O)
  cases hj2;exact .sk<|.hE (A3,c3,A4,c4) O (zl [2,1] 0 O)
 rintro ⟨A6,c6,A7,c7⟩;refine .seq<|.bd h fun o4 EL h=>.DZ 3 (fun (e4:Option Addr × Nat × Option Addr × Nat)=>[0,1,5,6,7,8, .s 10 (.int .i64 o4.1)]) (fun e4=>[.res (zD xA 3 e4.2.2.1 e4.2.2.2 o4.2.AY), .res (zD AP 5 e4.1 e4.2.1 o4.2.bytes), .res (Box ES 112 (zJ o4.2 e4.1 e4.2.1 e4.2.2.1 e4.2.2.2))]) O O ?_ ?_
 ·refine .ab [0,1,5,6,7,8,10,72] O<|.cb EL O (fun EL=>?_) (fun EL=>?_)
  ·refine .region<|.n 3 O<|.lb 0 3 O<|.n 12 O<|.bS O fun g1=>.bd EL fun Vj iq EL=>?_;refine .ss 76 (rX iq)<|.AQ (fun _ w=>w.IB (E:=AP) (e:=5) [wrap .u8 (wrap .i64 (AL.generation+1)),wrap .u8 (xP .i64 (wrap .i64 (AL.generation+1)) 8),wrap .u8 (xP .i64 (wrap .i64 (AL.generation+1)) 16),wrap .u8 (xP .i64 (wrap .i64 (AL.generation+1)) 24)] O O)<|.AQ (fun _ w=>w.CO)<|.bd EL fun r6 KZ EL=>.ct 7 [3] [3,2,1] 0 (wV KZ) ig O fun WE c12 MQ c13=>?_;cases EL;exact .be O<|.hE (WE,c12,MQ,c13) O (zl [2,1,0] 1 O)
  cases EL;exact .sk<|.hE (A6,c6,A7,c7) O zw
 rintro ⟨MR,c10,OQ,c11⟩;refine .seq<|.bd h fun o5 GH h=>.DZ 3 (fun (e5:Option Addr × Nat × Option Addr × Nat)=>[0,1,5,6, .s 7 (.int .i64 o5.1),8, .s 10 (.int .i64 o5.2.1)]) (fun e5=>[.res (zD xA 3 e5.2.2.1 e5.2.2.2 o5.2.2.AY), .res (zD AP 5 e5.1 e5.2.1 o5.2.2.bytes), .res (Box ES 112 (zJ o5.2.2 e5.1 e5.2.1 e5.2.2.1 e5.2.2.2))]) O O ?_ ?_
 ·refine .seq<|.bd GH fun o6 SQ GH=>.cu 0 [0,1,5,6,7,8,10, .s 97 (.bool o6)] [] O O ?_ ?_
  ·refine .region<|.n 3 O<|.gs 93 SQ O (fun SQ=>?_) (fun SQ=>?_)
   ·refine .n 1 O<|.BR O O<|.NS (K:=(xE .u8)) (E:=(DC AP)) O O (zm 5 O) O O O ?_;cases SQ;exact .be O<|.hU O zw
   cases SQ;exact .be O<|.hU O zw
  refine .cb GH O (fun GH=>?_) (fun GH=>?_)
  ·refine .a 1 O<|.bd GH fun r7 PI GH=>.cr 7 [] [5] 0 (nO PI) zVB O fun SK c16=>.AQ (fun _ w=>(w.sl [1] 0 O).IZ)<|.bd GH fun r8 SH GH=>.cr 8 [0] [] 0 (fS SH) zVb O fun TJ c17=>.bf [0,1,5,6,7,8,11] [0] 1 O O<|.ab [0,1,5,6,7,8,11] O<|.region<|.n 3 O<|.lb 0 5 O<|.n 3 O<|.bd GH fun Vk iw GH=>?_;refine .ss 108 (rX iw)<|.AQ (fun _ w=>w.CO)<|.bd GH fun r9 XH GH=>.ct 7 [3] [4,3,2] 0 (wV XH) ig O fun VB c18 SL c19=>?_;cases GH;exact .be O<|.hE (VB,c18,SL,c19) O (zl [2,1,0,2,2] 1 O)
  cases GH;exact .sk<|.hE (MR,c10,OQ,c11) O zw
 rintro ⟨LD,c14,PK,c15⟩;refine .seq<|.bd h fun o7 QR h=>.DZ 3 (fun (e7:Option Addr × Nat × Option Addr × Nat)=>[0,1,5,6,7, .s 10 (.int .i64 o7.1)]) (fun e7=>[.res (zD xA 3 e7.2.2.1 e7.2.2.2 o7.2.AY), .res (zD AP 5 e7.1 e7.2.1 o7.2.bytes), .res (Box ES 112 (zJ o7.2 e7.1 e7.2.1 e7.2.2.1 e7.2.2.2))]) O O ?_ ?_
 ·refine .ab [0,1,5,6,7,8,10,114] O<|.cb QR O (fun QR=>?_) (fun QR=>?_)
  ·refine .region<|.n 3 O<|.lb 0 3 O<|.n 2 O<|.bS O fun g2=>.bd QR fun bb6 Vx QR=>?_;refine .ss 118 (rX Vx)<|.AQ (fun _ w=>w.IB (E:=AP) (e:=5) [0] O O)<|.AQ (fun _ w=>w.CO)<|.bd QR fun r10 NT QR=>.ct 7 [3] [3,2,1] 0 (wV NT) ig O fun qo qp Vg c23=>?_;cases QR;exact .be O<|.hE (qo,qp,Vg,c23) O (zl [2,1,0] 1 O)
  cases QR;exact .sk<|.hE (LD,c14,PK,c15) O zw
 rintro ⟨VD,c20,YQ,c21⟩;refine .seq<|.ab [0,1,5,6,7,10,124] O<|.cb h O (fun h=>?_) (fun h=>?_)
 ·refine .region<|.n 11 O<|.sb 2 3 O<|.n 2 O<|.sb 3 0 O<|.n 2 O<|.sb 4 0 O<|.n 2 O<|.sb 5 0 O<|.n 2 O<|.sb 6 0 O<|.bf [10] [0,0,0,0] 1 O O<|.ab [4] O ?_;cases h;exact .rv O O ⟨M2,VD,c20,YQ,c21,O,O⟩ (zl [0,3,2,1] 0 O)
 refine .sk<|.pr [10] O<|.ab [4] O ?_;cases h;exact .rv O O ⟨M1,VD,c20,YQ,c21,O,O⟩ (zl [3,3,2,1,0] 1 O)
theorem zVo:BV Tryz.prog 19:=en Tryz.func19 (by kernel_rfl)
def xT [AO] (AL:yD) (FP:(List zB)) (EG:zA):Option (yD × zA × Int):=
 bnd ((bif AL.ended then (some true) else (bnd (iZ AL.d) fun bb1=>bnd (tX EG) fun r1=>some r1):Option Bool)) fun o1=>bif o1 then (some ((⟨false,0,0,0,none,0,false,true⟩:yD),EG,10)) else (bnd (nK FP) fun r2=>bnd ((bif (r2 != 0) then (some true) else (some ((FP.length:Int)==0)):Option Bool)) fun o2=>bif o2 then (some (AL,EG,r2)) else (bnd (wY AL.all FP) fun r3=>bif decide ((((r3.getD []).length:Nat):Int)>32) then (some (AL,EG,3)) else (bnd (rQ FP) fun r4=>bnd ((bif decide (AL.active≥0) then (bif AL.clean then (bnd (iZ AL.d) fun bb2=>bnd (zK EG) fun r5=>some (decide ((r4.length:Int)≤(wrap .i64 (r5 - AL.tail))))) else (some false)) else (some false):Option Bool)) fun o3=>bif o3 then (bnd (iZ AL.d) fun bb3=>bnd (zK EG) fun r6=>bnd (yJ EG (wrap .i64 ((wrap .i64 ((wrap .i64 (AL.first+AL.active))*r6))+AL.tail)) r4) fun r7=>bif (r7.2==0) then (bif (r7.2==10) then (some ((⟨false,0,0,0,none,0,false,true⟩:yD),r7.1,r7.2)) else (some ((⟨AL.d,AL.first,AL.active,AL.generation,r3,wrap .i64 (AL.tail+(r4.length:Int)),AL.clean,AL.ended⟩:yD),r7.1,r7.2))) else (bif (r7.2==10) then (some ((⟨false,0,0,0,none,0,false,true⟩:yD),r7.1,r7.2)) else (some (AL,r7.1,r7.2)))) else (bnd (uX AL r3 EG) fun r8=>bif (r8.2.2==10) then (some ((⟨false,0,0,0,none,0,false,true⟩:yD),r8.2.1,r8.2.2)) else (some (r8.1,r8.2.1,r8.2.2))))))
theorem lG [AO] {AL FP EG A1 c1 A2 c2 A3 c3 M1 BN ES r} (h:xT AL FP EG=some r):
    AX Tryz.prog 19 [.pointer (some ⟨BN,0,none⟩), .slice A1 FP.length c1] [.ro (Sl (yL yC) A1 c1 FP), .res (Box BN 116 (pM AL ES M1)), .res (yZ (xE .u8) (DC AP) M1 AL.all), .res (Box ES 112 (zJ EG A2 c2 A3 c3)), .res (zD AP 5 A2 c2 EG.bytes), .res (zD xA 3 A3 c3 EG.AY)] (fun v F=>∃ M2 A4 c4 A5 c5,v= .int .i64 r.2.2∧F= [.res (Box BN 116 (pM r.1 ES M2)), .res (yZ (xE .u8) (DC AP) M2 r.1.all), .res (Box ES 112 (zJ r.2.1 A4 c4 A5 c5)), .res (zD AP 5 A4 c4 r.2.1.bytes), .res (zD xA 3 A5 c5 r.2.1.AY)]):=by
 refine AX.intro Tryz.func19 O O O fun w R=>?_;refine .ab [0,1] O<|.seq<|.seq<|.bd h fun o1 hj1 h=>.cu 0 [0,1, .s 19 (.bool o1)] [] O O ?_ ?_
 ·refine .region<|.n 3 O<|.lb 7 1 O<|.p O O<|.gs 13 hj1 O (fun hj1=>?_) (fun hj1=>?_)
  ·cases hj1;exact .be O<|.hU O zw
  refine .n 3 O<|.BR O O<|.lb 0 1 O<|.BR O O<|.bd hj1 fun bb1 NW hj1=>?_;refine .ss 17 (rX NW)<|.bd hj1 fun r1 hr1 hj1=>.cq 6 [] [3,3,3] 0 (iJ hr1) zVw O ?_;cases hj1;exact .be O<|.hU O (zl [3,3,3] 0 O)
 refine .cb h O (fun h=>?_) (fun h=>?_)
 ·refine .a 3 O<|.sb 0 1 O<|.bf [] [0] 2 O O<|.ae O<|.AQ (fun _ w=>w.SC (xE .u8) (DC AP)) ?_;cases h;exact .rv O O ⟨none,A2,c2,A3,c3,O,O⟩ (zl [1] 0 O)
 refine .sk<|.pr [0,1] O<|.seq<|.a 1 O<|.bd h fun r2 hr2 h=>.cv [0] (zEC hr2) zYm O<|.b [0,1,5] O<|.seq<|.bd h fun o2 hj2 h=>.cu 0 [0,1,5, .s 31 (.bool o2)] [] O O ?_ ?_
 ·refine .region<|.n 3 O<|.gs 27 hj2 O (fun hj2=>?_) (fun hj2=>?_)
  ·cases hj2;exact .be O<|.hU O zw
  cases hj2;exact .be O<|.hU O zw
 refine .cb h O (fun h=>?_) (fun h=>?_)
 ·refine .EQ [4] [] 1 O O ?_;cases h;exact .rv O O ⟨M1,A2,c2,A3,c3,O,O⟩ zw
 refine .sk<|.pr [0,1] O<|.a 3 O<|.lb 4 1 O<|.p O O<|.bd h fun r3 hr3 h=>.call (nV hr3) zVm O O O (zd [1] [2] 0 O) ?_;rintro _ _ ⟨M2,rfl,rfl⟩;refine .nm 7 O<|.b [0,1,6] O<|.seq<|.a 1 O<|.NS (K:=(xE .u8)) (E:=(DC AP)) O O EI O O O<|.b [0,1,6,41] O<|.cb h O (fun h=>?_) (fun h=>?_)
 ·refine .EQ [4] [0] 2 O O ?_;cases h;exact .rv O O ⟨M1,A2,c2,A3,c3,O,O⟩ (zl [1] 0 O)
 refine .sk<|.pr [0,1,6] O<|.a 1 O<|.bd h fun r4 hr4 h=>.cr 8 [2] [] 0 (fS hr4) zVb O fun A4 c4=>.bf [0,6,7] [0,0,0] 1 O O<|.ab [0,6,7] O<|.seq<|.seq<|.bd h fun o3 hj3 h=>.cu 0 [0,6,7, .s 69 (.bool o3)] [] O O ?_ ?_
 ·refine .BG (iN [0,4,8,13,16,20,24,28,32,37,40,44,48,52,56,60,64,69,76,80,84,88,75,92,96,100] .nil) _ mixed (by kernel_rfl) zw<|.yn 3 O<|.yx 2 3 O<|.yn 2 O<|.sB 49 hj3 O (fun hj3=>?_) (fun hj3=>?_)
  ·refine .yn 3 O<|.LV O O<|.yx 6 3 O<|.yn 2 O<|.sB 55 hj3 O (fun hj3=>?_) (fun hj3=>?_)
   ·refine .yn 5 O<|.LV O O<|.yx 0 3 O<|.yn 3 O<|.LV O O<|.yl 5 3 O<|.LV O O<|.BZ<|.bd hj3 fun bb2 NY hj3=>?_;refine .ss 61 (rX NY)<|.bd hj3 fun r5 JF hj3=>.cq 7 [] [4,4,4] 0 (yR JF) dK O<|.xk (zl [3,3,3,3] 0 O)<|.yn 3 O<|.BX ?_;cases hj3;exact .AB<|.hU O (zl [3,3,3,3] 0 O)
   refine .yn 14 O<|.BX ?_;cases hj3;exact .AB<|.hU O zw
  refine .yn 20 O<|.BX ?_;cases hj3;exact .AB<|.hU O zw
 refine .cb h O (fun h=>?_) (fun h=>?_)
 ·refine .seq<|.BG (iN [0,4,8,12,16,20,24,28,32,36,40,44,48,52,56,60,65,76,80,84,88,96,71,72,92,103,104] .nil) _ mixed (by kernel_rfl) (zl [1,1,1] 4 O)<|.yn 3 O<|.yl 0 2 O<|.yn 3 O<|.yl 1 2 O<|.yn 3 O<|.yl 2 2 O<|.yn 4 O<|.yx 0 3 O<|.yn 3 O<|.yl 5 2 O<|.yn 1 O<|.BZ<|.bd h fun bb3 OT h=>?_;refine .ss 73 (rX OT) ?_;refine .ss 86 (rX OT)<|.bd h fun r6 KZ h=>.cq 7 [] [4,4,4] 0 (yR KZ) dK O<|.xk (zl [] 4 O)<|.yn 2 O<|.BZ<|.AQ (fun _ w=>(w.sl [3] 0 O).CO)<|.bd h fun r7 PI h=>.ct 7 [3] [1,1,1] 0 (wV PI) ig O fun A5 c5 A6 c6=>.xk (zl [] 4 O)<|.yn 1 O<|.BX<|.AB<|.pr [0,6,7,8] O<|.ab [0,6,7,8,97] O<|.cb h O (fun h=>?_) (fun h=>?_)
  ·refine .region<|.n 6 O<|.lb 5 6 O<|.n 5 O<|.sb 4 6 O<|.n 2 O<|.sb 5 0 O<|.bf [0,8] [0,0,0,0] 2 O O<|.seq<|.ab [0,8,116] O<|.cb h O (fun h=>?_) (fun h=>?_)
   ·refine .region<|.n 3 O<|.sb 0 0 O<|.bf [8] [0,0,0,0] 1 O O<|.ab [4] O<|.AQ (fun _ w=>w.SC (xE .u8) (DC AP)) ?_;cases h;exact .rv O O ⟨none,A5,c5,A6,c6,O,O⟩ (zl [1] 0 O)
   refine .sk<|.pr [8] O<|.ab [4] O ?_;cases h;exact .rv O O ⟨M2,A5,c5,A6,c6,O,O⟩ (zl [0,3] 0 O)
  refine .sk<|.pf [0,8] [0,0,0,1] 2 O O<|.seq<|.ab [0,8,116] O<|.cb h O (fun h=>?_) (fun h=>?_)
  ·refine .region<|.n 3 O<|.sb 0 4 O<|.bf [8] [0,0,0,0] 1 O O<|.ab [4] O<|.AQ (fun _ w=>w.SC (xE .u8) (DC AP)) ?_;cases h;exact .rv O O ⟨none,A5,c5,A6,c6,O,O⟩ (zl [1] 0 O)
  refine .sk<|.pr [8] O<|.ab [4] O ?_;cases h;exact .rv O O ⟨M1,A5,c5,A6,c6,O,O⟩ (zl [4,3] 0 O)
 refine .region<|.n 2 O<|.bd h fun r8 SH h=>.call (zAh (BN:=BN) (ES:=ES) SH) zYS O O O (zl [3,1,1,1,1,1] 0 O) ?_;rintro _ _ ⟨M3,A7,c7,A8,c8,rfl,rfl⟩;refine .nm 6 O<|.bf [0,8] [0,0,0,0,0] 1 O O<|.seq<|.ab [0,8,116] O<|.cb h O (fun h=>?_) (fun h=>?_)
 ·refine .region<|.n 3 O<|.sb 0 0 O<|.bf [8] [0] 1 O O<|.ab [4] O<|.AQ (fun _ w=>w.SC (xE .u8) (DC AP)) ?_;cases h;exact .rv O O ⟨none,A7,c7,A8,c8,O,O⟩ (zl [1] 0 O)
 refine .sk<|.pr [8] O<|.ab [4] O ?_;cases h;exact .rv O O ⟨M3,A7,c7,A8,c8,O,O⟩ zw
theorem zVD:BV Tryz.prog 21:=en Tryz.func21 (by kernel_rfl)
def vF [AO] (AL:yD):Option (List zB):=
 bnd (wS AL.all) fun r1=>some r1
theorem iB [AO] {AL M1 BN ES r} (h:vF AL=some r):
    AX Tryz.prog 21 [.pointer (some ⟨BN,0,none⟩)] [.res (Box BN 116 (pM AL ES M1)), .res (yZ (xE .u8) (DC AP) M1 AL.all)] (fun v F=>∃ A1 c1,v= .slice A1 r.length c1∧F= [.res (Box BN 116 (pM AL ES M1)), .res (yZ (xE .u8) (DC AP) M1 AL.all), .res (uD (yL yC) 140 A1 c1 r)]):=by
 refine AX.intro Tryz.func21 O O O fun w R=>?_;refine .ab [0] O<|.a 3 O<|.lb 4 0 O<|.bd h fun r1 hr1 h=>.cr 3 [] [1] 0 (nO hr1) zVB O fun A1 c1=>.b [2] O ?_;cases h;exact .rv O O ⟨A1,c1,O,O⟩ (zl [2] 0 O)
theorem zVi:BV Tryz.prog 20:=en Tryz.func20 (by kernel_rfl)
def sK [AO] (BM:(List zB)):Option ((List zG) × Int):=
 bnd (zI (τ:=((List zG) × Int) ⊕ List zG) (fun (s1:List zG × Int)=>bif decide (s1.2<(BM.length:Int)) then (bnd (AU BM s1.2) fun x1=>bnd ((bif x1.Delete then (some true) else (bnd (wK (wrap .i64 ((wrap .i64 x1.Key) - 16))) fun r1=>some (!r1)):Option Bool)) fun o3=>bif o3 then (some (.next (s1.1,wrap .i64 (s1.2+1)))) else (bnd ((bif decide ((s1.1.length:Int)>0) then (bnd (AU s1.1 (wrap .i64 ((s1.1.length:Int) - 1))) fun x2=>some (s1.1,decide ((wrap .i64 ((wrap .i64 x1.Key) - 16))≤x2.Slot))) else (some (s1.1,false)):Option (List zG × Bool))) fun o4=>bif o4.2 then (some (.done (.inl ([],1)))) else (bnd ((bif decide ((x1.Value.length:Int)<5) then (some true) else (bif decide ((x1.Value.length:Int)>28) then (some true) else (bnd (AU x1.Value 0) fun x3=>bif decide (x3>1) then (some true) else (bif (x3==0) then (some (decide ((x1.Value.length:Int)>5))) else (some false)))):Option Bool)) fun o5=>bif o5 then (some (.done (.inl ([],6)))) else (bnd (AU x1.Value 1) fun x4=>bnd (AU x1.Value 2) fun x5=>bnd (AU x1.Value 3) fun x6=>bnd (AU x1.Value 4) fun x7=>bnd (AU x1.Value 0) fun x8=>bnd (sub x1.Value 5 (x1.Value.length:Int)) fun l1=>bnd (app 40 o4.1 [(⟨wrap .i64 ((wrap .i64 x1.Key) - 16),(x8==1),TA l1,CZ .u32 (CZ .u32 (CZ .u32 (wrap .u32 x4) (yM .u32 (wrap .u32 x5) 8)) (yM .u32 (wrap .u32 x6) 16)) (yM .u32 (wrap .u32 x7) 24)⟩:zG)]) fun l2=>some (.next (l2,wrap .i64 (s1.2+1))))))) else (some (.done (.inr s1.1)))) ([],0)) fun o1=>wN o1 fun o2=>some (o2,0)
end Go.Proofs.YtccooahdinmfmaaGreatDoor
end
