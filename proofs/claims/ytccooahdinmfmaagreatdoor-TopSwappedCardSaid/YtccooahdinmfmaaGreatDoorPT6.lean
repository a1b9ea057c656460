/-
  Texts of this seat, put together: rules, walks, plain laws.
  Conditions: none.
-/
import Derived.Test.YtccooahdinmfmaaGreatDoorPT5
noncomputable section
namespace Go.Proofs.YtccooahdinmfmaaGreatDoor
open Go IntKind
set_option linter.unusedVariables false
set_option linter.unusedSimpArgs false
set_option linter.unusedSectionVars false
set_option maxHeartbeats 4000000
set_option maxRecDepth 10000
theorem cQ [AO] {BM A1 c1 r} (h:sK BM=some r):
    AX Tryz.prog 20 [.slice A1 BM.length c1] [.ro (Sl (yL yC) A1 c1 BM)] (fun v F=>∃ A2 c2,v= .tuple #[.slice A2 r.1.length c2, .int .i64 r.2]∧F= [.res (zD vR 134 A2 c2 r.1)]):=by
 refine AX.intro Tryz.func20 O O O fun w R=>?_;refine .ab [0] O<|.ae O<|.seq<|.ab [4,10,11,12] O<|.AQ (fun _ w=>w.EH vR 134)<|.bd h fun o1 hl1 h=>.EJ 2 (fun (o2:List zG) (e2:Option Addr × Nat)=>[.s 4 (.slice e2.1 o2.length e2.2)]) (fun o2 e2=>[.res (zD vR 134 e2.1 e2.2 o2)]) O O (fun o2=>o1= .inr o2) ?_ ?_
 ·refine .block<|.BH hl1 1 (fun (s1:List zG × Int) (e1:Option Addr × Nat)=>[.s 4 (.slice e1.1 s1.1.length e1.2),10,11, .s 12 (.int .i64 s1.2)]) (fun s1 e1=>[.res (zD vR 134 e1.1 e1.2 s1.1)]) O O (none,0) (zb O) (fun _ w=>w) ?_;rintro s1 ⟨A2,c2⟩ st1 hm1 hd1 h1;refine .ae O<|.seq<|.cb h1 O (fun h1=>?_) (fun h1=>?_)
  ·refine .sk<|.pr [4,10,11,12] O<|.seq<|.block<|.seq<|.region<|.bd h1 fun x1 hx1 h1=>.RZ hx1 1 O fun b1 ED JD=>?_;obtain ⟨⟨A4,c4⟩,_⟩:=JD;refine .nm 4 O<|.ld ED 0 0 O<|.alloc O O fun g1=>.sb 0 0 O<|.bf [4,6,10,11,12] [0] 1 O O<|.a 1 O<|.lb 0 0 O<|.b [4,6,7,10,11,12] O<|.seq<|.seq<|.bd h1 fun o3 hj1 h1=>.cu 0 [4,6,7,10,11,12, .s 26 (.bool o3)] [] O O ?_ ?_
   ·refine .region<|.p O O<|.lb 2 0 O<|.p O O<|.gs 22 hj1 O (fun hj1=>?_) (fun hj1=>?_)
    ·cases hj1;exact .be O<|.hU O zw
    refine .n 1 O<|.BR O O<|.bd hj1 fun r1 hr1 hj1=>.cv [] (qJ hr1) Jm O ?_;cases hj1;exact .be O<|.hU O zw
   refine .cb h1 O (fun h1=>?_) (fun h1=>?_)
   ·refine .xq O<|.AB<|.pf [4,10,11,12] [] 2 O O<|.region ?_;cases h1;exact .be O<|.ag (A2,c2) hm1 O zw
   refine .sk<|.pr [4,6,7,10,11,12] O<|.a 1 O<|.lb 1 0 O<|.bf [4,7,8,10,11,12] [] 1 O O<|.seq<|.block<|.seq<|.bd h1 fun o4 hj2 h1=>.DZ 2 (fun (e4:Option Addr × Nat)=>[.s 4 (.slice e4.1 o4.1.length e4.2),7,8,10,11,12, .s 29 (.bool o4.2)]) (fun e4=>[.res (zD vR 134 e4.1 e4.2 o4.1),0]) O O ?_ ?_
   ·refine .region<|.n 4 O<|.gs 33 hj2 O (fun hj2=>?_) (fun hj2=>?_)
    ·refine .n 5 O<|.BR O O<|.bd hj2 fun x2 hx2 hj2=>.II hx2 1 O fun g2 hA=>?_;subst hA;refine .n 1 O<|.BR O O<|.EZ 0 hx2 O O EI O O ?_;cases hj2;exact .be O<|.hE ((some ⟨g2,0,none⟩),c2) O (zl [1] 0 O)
    cases hj2;exact .be O<|.hE (A2,c2) O (zl [1] 0 O)
   rintro ⟨A5,c5⟩;refine .cb h1 O (fun h1=>?_) (fun h1=>?_)
   ·refine .EQ [2,3] [] 3 O O<|.AQ (fun _ w=>w.EH vR 134) ?_;cases h1;cases hd1 _ rfl
    have h:some _=some _:=h;cases h;exact .rv O O ⟨none,0,O,O⟩ zw
   refine .seq<|.bd h1 fun o5 hj3 h1=>.cu 0 [4,7,8,10,11,12, .s 44 (.bool o5)] [] O O ?_ ?_
   ·refine .region<|.n 4 O<|.gs 48 hj3 O (fun hj3=>?_) (fun hj3=>?_)
    ·cases hj3;exact .be O<|.hU O zw
    refine .n 5 O<|.gs 53 hj3 O (fun hj3=>?_) (fun hj3=>?_)
    ·cases hj3;exact .be O<|.hU O zw
    refine .n 1 O<|.BR O O<|.bd hj3 fun x3 hx3 hj3=>.FB hx3 1 O fun b2 JA=>.BR O O<|.ld JA 0 0 O<|.n 3 O<|.gs 59 hj3 O (fun hj3=>?_) (fun hj3=>?_)
    ·cases hj3;exact .be O<|.hU O (zl [] 1 O)
    refine .n 1 O<|.BR O O<|.FB hx3 2 O fun b3 JY=>.BR O O<|.ld JY 0 0 O<|.n 2 O<|.gs 64 hj3 O (fun hj3=>?_) (fun hj3=>?_)
    ·cases hj3;exact .be O<|.hU O (zl [] 2 O)
    cases hj3;exact .be O<|.hU O (zl [] 2 O)
   refine .cb h1 O (fun h1=>?_) (fun h1=>?_)
   ·refine .EQ [2,3] [] 3 O O<|.AQ (fun _ w=>w.EH vR 134) ?_;cases h1;cases hd1 _ rfl
    have h:some _=some _:=h;cases h;exact .rv O O ⟨none,0,O,O⟩ zw
   refine .skip<|.BF<|.AB<|.pr [4,7,8,10,11,12] O<|.seq<|.regionF mixed (by kernel_rfl)<|.p O O<|.bd h1 fun x4 hx4 h1=>.FB hx4 1 O fun b4 KN=>.ld KN 0 0 O<|.n 2 O<|.bd h1 fun x5 hx5 h1=>.FB hx5 2 O fun b5 NU=>.ld NU 0 0 O<|.n 4 O<|.bd h1 fun x6 hx6 h1=>.FB hx6 3 O fun b6 SI=>.ld SI 0 0 O<|.n 4 O<|.bd h1 fun x7 hx7 h1=>.FB hx7 4 O fun b7 UR=>.ld UR 0 0 O<|.beq O<|.pf [4,7,8,9,10,11,12] [] 4 O O<|.BG (iN [0,4,8,13,17,20,24,29,33,36,40,47,51,52] .nil) _ mixed (by kernel_rfl) (zl [] 1 O)<|.yn 3 O<|.bd h1 fun x8 JL h1=>.FV EI JL fun b8 UU MB=>.AQ (fun _ w=>Sat.EP MB EI JL w) ?_;have hc1:=fun w h=>Sat.EP MB (.head _) JL ((fun (w:World) (h:Sat (.ro (BP AP A4 c4 x1.Value):: .ro (Sl (yL yC) A1 c1 BM)::R) w)=>h) w h);refine .DR (Rd.LK (E:=AP) MB JL O O O O O O O) O<|.DR (Rd.load UU 0 O (.head _) O O) O<|.yn 2 O<|.bd h1 fun l1 hl1 h1=>.LU (zm 2 O) hl1 fun A6 c6 hS1=>?_;have hc2:=fun w h=>Sat.QA hS1 EI hl1 (hc1 w h);refine .DR (Rd.sub hS1 hl1 (zm 3 O) O O O O O O O O) O<|.DR (Rd.vw (.head _) O O O O O O O O) O<|.yn 2 O<|.BZ<|.bS O fun g3=>.xk (zl [] 4 O)<|.BZ<|.bd h1 fun l2 hl2 h1=>.app (E:=vR) hl2 O O O (FX 3 O) O O O O O O O O (oP (.head _) O O) O O fun A7 c7=>.xk (zl [] 4 O)<|.yn 1 O<|.BX<|.BF<|.AB<|.pf [4,10,11,12] [0] 4 O O<|.region ?_;cases h1;exact .be O<|.ag (A7,c7) hm1 O zw
  refine .xq O ?_;cases h1;cases hd1 _ rfl
  exact .AB<|.DN s1.1 (A2,c2) O (zb O) (zl [0] 1 O)
 rintro o2 ⟨A3,c3⟩ ho;subst ho;have h:=IV h;refine .ab [2,3] O ?_;cases h;exact .rv O O ⟨A3,c3,O,O⟩ zw
theorem zVF:BV Tryz.prog 99:=en Tryz.func99 (by kernel_rfl)
def uR [AO] (BM:(List zG)):Option (List (ByteArray × Int)):=
 bnd (zI (τ:=(List (ByteArray × Int))) (fun (s1:Int × (List (ByteArray × Int)))=>bif decide (s1.1<(BM.length:Int)) then (bnd (AU BM s1.1) fun x1=>some (.next (wrap .i64 (s1.1+1),pG sJ.eq s1.2 x1.AV (wrap .i64 (((uA sJ.eq s1.2 x1.AV).getD 0)+1))))) else (some (.done s1.2))) (0, [])) fun o1=>bnd (zI (τ:=(List (ByteArray × Int))) (fun (s2:Int × (List (ByteArray × Int)))=>bif decide (s2.1<(BM.length:Int)) then (bnd (AU BM s2.1) fun x2=>bnd ((bif !(x2.AV.toList==((⟨#[]⟩):ByteArray).toList) then (some (((uA sJ.eq o1 x2.AV).getD 0)==1)) else (some false):Option Bool)) fun o3=>bif o3 then (some (.next (wrap .i64 (s2.1+1),pG sJ.eq s2.2 x2.AV x2.Slot))) else (some (.next (wrap .i64 (s2.1+1),s2.2)))) else (some (.done s2.2))) (0, [])) fun o2=>some o2
theorem kB [AO] {BM A1 c1 r} (h:uR BM=some r):
    AX Tryz.prog 99 [.slice A1 BM.length c1] [.ro (BP vR A1 c1 BM)] (fun v F=>∃ g1,v= .map (some g1)∧F= [.res (jY sJ (fun x=>.int .i64 x) g1 r)]):=by
 refine AX.intro Tryz.func99 O O O fun w R=>?_;refine .ab [0] O<|.seq<|.region<|.makeMap (K:=sJ) (vv:=(fun x=>.int .i64 x)) O fun g1=>.b [0,3] O<|.seq<|.ae O<|.bd h fun o1 hl1 h=>.cu 1 [0,3] [.res (jY sJ (fun x=>.int .i64 x) g1 o1)] O O ?_ ?_
 ·refine .block<|.BH hl1 1 (fun (s1:Int × (List (ByteArray × Int))) (e1:Unit)=>[0,3,10,11, .s 12 (.int .i64 s1.1)]) (fun s1 e1=>[.res (jY sJ (fun x=>.int .i64 x) g1 s1.2)]) O O () (zb O) (fun _ w=>w) ?_;rintro s1 e1 st1 hm1 hd1 h1;refine .ae O<|.seq<|.cb h1 O (fun h1=>?_) (fun h1=>?_)
  ·refine .sk<|.pr [0,3,10,11,12] O<|.seq<|.block<|.seq<|.region<|.bd h1 fun x1 hx1 h1=>.FB hx1 1 O fun b1 ED=>.ld ED 0 0 O<|.alloc O O fun g2=>.sb 0 0 O<|.bf [0,3,5,10,11,12] [0] 1 O O<|.region<|.n 2 O<|.lb 2 0 O<|.lookup (K:=sJ) (vv:=(fun x=>.int .i64 x)) (u:=.int .i64 ((uA sJ.eq s1.2 x1.AV).getD 0)) 0 x1.AV O O O EI O O O O O O O<|.p O O<|.mapUpdate (K:=sJ) (vv:=(fun x=>.int .i64 x)) x1.AV (wrap .i64 (((uA sJ.eq s1.2 x1.AV).getD 0)+1)) O O O (.s .z) O O O O<|.done<|.BF<|.AB<|.pf [0,3,10,11,12] [0] 1 O O<|.region ?_;cases h1;exact .be O<|.ag () hm1 O zw
  refine .xq O ?_;cases h1;cases hd1 _ rfl
  exact .AB<|.hU O zw
 refine .seq<|.region<|.makeMap (K:=sJ) (vv:=(fun x=>.int .i64 x)) O fun g3=>.b [0,3,6] O<|.seq<|.ab [3,6,23,24,25] O<|.bd h fun o2 hl2 h=>.cu 3 [6] [.res (jY sJ (fun x=>.int .i64 x) g3 o2)] O O ?_ ?_
 ·refine .block<|.BH hl2 1 (fun (s2:Int × (List (ByteArray × Int))) (e3:Unit)=>[3,6,23,24, .s 25 (.int .i64 s2.1)]) (fun s2 e3=>[.res (jY sJ (fun x=>.int .i64 x) g3 s2.2)]) O O () (zb O) (fun _ w=>w) ?_;rintro s2 e3 st2 hm2 hd2 h2;refine .ae O<|.seq<|.cb h2 O (fun h2=>?_) (fun h2=>?_)
  ·refine .sk<|.pr [3,6,23,24,25] O<|.seq<|.block<|.seq<|.region<|.bd h2 fun x2 hx2 h2=>.FB hx2 2 O fun b2 JA=>.ld JA 0 0 O<|.alloc O O fun g4=>.sb 0 0 O<|.bf [3,6,8,23,24,25] [0] 1 O O<|.seq<|.bd h2 fun o3 hj1 h2=>.cu 0 [3,6,8,23,24,25, .s 38 (.bool o3)] [] O O ?_ ?_
   ·refine .region<|.p O O<|.lb 2 0 O<|.n 2 O<|.gs 32 hj1 O (fun hj1=>?_) (fun hj1=>?_)
    ·refine .n 2 O<|.BR O O<|.lb 2 0 O<|.BR O O<|.lookup (K:=sJ) (vv:=(fun x=>.int .i64 x)) (u:=.int .i64 ((uA sJ.eq o1 x2.AV).getD 0)) 0 x2.AV O O O (zm 2 O) O O O O O O O ?_;cases hj1;exact .be O<|.hU O zw
    cases hj1;exact .be O<|.hU O zw
   refine .cb h2 O (fun h2=>?_) (fun h2=>?_)
   ·refine .region<|.n 2 O<|.lb 2 0 O<|.p O O<|.lb 0 0 O<|.mapUpdate (K:=sJ) (vv:=(fun x=>.int .i64 x)) x2.AV x2.Slot O O O (.s .z) O O O O<|.done<|.BF<|.AB<|.pf [3,6,23,24,25] [0] 1 O O<|.region ?_;cases h2;exact .be O<|.ag () hm2 O zw
   refine .skip<|.BF<|.AB<|.pf [3,6,23,24,25] [] 1 O O<|.region ?_;cases h2;exact .be O<|.ag () hm2 O zw
  refine .xq O ?_;cases h2;cases hd2 _ rfl
  exact .AB<|.hU O (zl [0] 2 O)
 refine .ab [2] O ?_;cases h;exact .rv O O ⟨g3,O,O⟩ zw
theorem zRY:BV Tryz.prog 100:=en Tryz.func100 (by kernel_rfl)
def rL (IU:zG) (own:(List (ByteArray × Int))) (others:(List (ByteArray × Int))):Option Int:=
 bnd ((bif !((uA sJ.eq own IU.AV).isSome) then (some true) else (some (!((uA sJ.eq others IU.AV).isSome))):Option Bool)) fun o1=>bif o1 then (some (-1)) else (some ((uA sJ.eq others IU.AV).getD 0))
theorem eB {IU own others BN ES r} (h:rL IU own others=some r):
    AX Tryz.prog 100 [.agg (bV IU).toArray, .map (some BN), .map (some ES)] [.res (jY sJ (fun x=>.int .i64 x) BN own), .res (jY sJ (fun x=>.int .i64 x) ES others)] (fun v F=>v= .int .i64 r∧F= [.res (jY sJ (fun x=>.int .i64 x) BN own), .res (jY sJ (fun x=>.int .i64 x) ES others)]):=by
 refine AX.intro Tryz.func100 O O O fun w R=>?_;refine .seq<|.region<|.box O O fun g1=>.b [1,2,3] O<|.a 2 O<|.lb 2 0 O<|.lookup (K:=sJ) (vv:=(fun x=>.int .i64 x)) (u:=.tuple #[.int .i64 ((uA sJ.eq own IU.AV).getD 0), .bool ((uA sJ.eq own IU.AV).isSome)]) 0 IU.AV O O O EI O O O O O O O<|.b [2,3,8] O<|.a 2 O<|.lb 2 0 O<|.lookup (K:=sJ) (vv:=(fun x=>.int .i64 x)) (u:=.tuple #[.int .i64 ((uA sJ.eq others IU.AV).getD 0), .bool ((uA sJ.eq others IU.AV).isSome)]) 0 IU.AV O O O (zm 2 O) O O O O O O O<|.bf [8,9,10] [] 1 O O<|.seq<|.seq<|.bd h fun o1 hj1 h=>.cu 0 [9, .s 30 (.bool o1)] [] O O ?_ ?_
 ·refine .region<|.n 3 O<|.gs 27 hj1 O (fun hj1=>?_) (fun hj1=>?_)
  ·cases hj1;exact .be O<|.hU O zw
  cases hj1;exact .be O<|.hU O zw
 refine .cb h O (fun h=>?_) (fun h=>?_)
 ·refine .ab [6] O ?_;cases h;exact .rv O O ⟨O,O⟩ zw
 refine .sk<|.pr [9] O<|.ab [6] O ?_;cases h;exact .rv O O ⟨O,O⟩ zw
theorem zYv:BV Tryz.prog 54:=en Tryz.func54 (by kernel_rfl)
def qK [AO] (GU:(List zG)) (GV:(List zG)) (slot:Int):Option (List zT):=
 bnd (uR GU) fun r1=>bnd (uR GV) fun r2=>bnd (qQ GU slot) fun r3=>bnd (qQ GV slot) fun r4=>bnd ((bif r3.2 then (bnd (rL r3.1 r1 r2) fun r5=>some (r5==(-1))) else (some false):Option Bool)) fun o1=>bnd ((bif r4.2 then (bnd (rL r4.1 r2 r1) fun r6=>some r6) else (some (-1)):Option Int)) fun o2=>bnd ((bnd ((bif o1 then (bif !r4.2 then (some true) else (some (o2 != (-1)))) else (some false):Option Bool)) fun o4=>bif o4 then (bnd (app 24 ([]) [(⟨2,slot,0⟩:zT)]) fun l1=>some l1) else (some ([])):Option (List zT))) fun o3=>bif !r4.2 then (some o3) else (bnd ((bif (o2 != (-1)) then (some (o2 != slot)) else (some false):Option Bool)) fun o5=>bif o5 then (bnd (app 24 o3 [(⟨4,slot,o2⟩:zT)]) fun l2=>some l2) else (bif (o2==slot) then (bif (r3.1.Sum != r4.1.Sum) then (bnd (app 24 o3 [(⟨5,slot,0⟩:zT)]) fun l3=>some l3) else (some o3)) else (bif !o1 then (bnd (app 24 o3 [(⟨1,slot,0⟩:zT)]) fun l4=>some l4) else (bif !((r3.1.Slot==r4.1.Slot)&&((r3.1.Good==r4.1.Good)&&((r3.1.AV.toList==r4.1.AV.toList)&&((r3.1.Sum==r4.1.Sum)&&true)))) then (bnd (app 24 o3 [(⟨3,slot,0⟩:zT)]) fun l5=>some l5) else (some o3)))))
theorem zBu [AO] {GU GV slot A1 c1 A2 c2 r} (h:qK GU GV slot=some r):
    AX Tryz.prog 54 [.slice A1 GU.length c1, .slice A2 GV.length c2, .int .i64 slot] [.ro (BP vR A1 c1 GU), .ro (BP vR A2 c2 GV)] (fun v F=>∃ A3 c3,v= .slice A3 r.length c3∧F= [.res (zD wJ 79 A3 c3 r)]):=by
 refine AX.intro Tryz.func54 O O O fun w R=>?_;refine .ab [0,1,2] O<|.a 1 O<|.bd h fun r1 hr1 h=>.call (kB hr1) zVF O O O (zd [0] [] 0 O) ?_;rintro _ _ ⟨g1,rfl,rfl⟩;refine .nm 3 O<|.p O O<|.bd h fun r2 hr2 h=>.call (kB hr2) zVF O O O (zd [2] [] 0 O) ?_;rintro _ _ ⟨g2,rfl,rfl⟩;refine .nm 4 O<|.b [0,1,2,7,8] O<|.a 2 O<|.bd h fun r3 hr3 h=>.cv [2] (gL hr3) Vw O<|.n 3 O<|.alloc O O fun g3=>.sb 0 0 O<|.bf [1,2,7,8,9,10] [0,0,0] 1 O O<|.a 2 O<|.bd h fun r4 hr4 h=>.cv [3] (gL hr4) Vw O<|.n 3 O<|.alloc O O fun g4=>.sb 0 0 O<|.bf [2,7,8,9,10,11,12] [0,0,0,0] 1 O O<|.seq<|.bd h fun o1 hj1 h=>.cu 0 [2,7,8,9,11,12, .s 13 (.bool o1)] [] O O ?_ ?_
 ·refine .region<|.n 2 O<|.gs 33 hj1 O (fun hj1=>?_) (fun hj1=>?_)
  ·refine .BR O O<|.lb 0 1 O<|.n 2 O<|.BR O O<|.bd hj1 fun r5 JF hj1=>.cq 4 [] [3,2] 0 (eB JF) zRY O ?_;cases hj1;exact .be O<|.hU O (zl [2,2,1] 0 O)
  cases hj1;exact .be O<|.hU O zw
 refine .ae O<|.seq<|.bd h fun o2 hj2 h=>.cu 4 [2,9,11,12,13, .s 14 (.int .i64 o2)] [0,1] O O ?_ ?_
 ·refine .ae O<|.cb hj2 O (fun hj2=>?_) (fun hj2=>?_)
  ·refine .region<|.lb 0 0 O<|.n 2 O<|.bd hj2 fun r6 KZ hj2=>.cq 4 [] [2,2] 0 (eB KZ) zRY O ?_;cases hj2;exact .be O<|.hU O (zl [] 2 O)
  cases hj2;exact .sk<|.hU O (zl [0,0] 2 O)
 refine .ae O<|.seq<|.bd h fun o3 hj3 h=>.DZ 0 (fun (e3:Option Addr × Nat)=>[2,9,11,12,13,14, .s 15 (.slice e3.1 o3.length e3.2)]) (fun e3=>[.res (zD wJ 79 e3.1 e3.2 o3)]) O O ?_ ?_
 ·refine .seq<|.bd hj3 fun o4 EL hj3=>.cu 0 [2,9,11,12,13,14,15, .s 53 (.bool o4)] [] O O ?_ ?_
  ·refine .region<|.n 2 O<|.gs 46 EL O (fun EL=>?_) (fun EL=>?_)
   ·refine .n 3 O<|.gs 49 EL O (fun EL=>?_) (fun EL=>?_)
    ·cases EL;exact .be O<|.hU O zw
    cases EL;exact .be O<|.hU O zw
   cases EL;exact .be O<|.hU O zw
  refine .cb hj3 O (fun hj3=>?_) (fun hj3=>?_)
  ·refine .region<|.n 3 O<|.bS O fun g5=>.AQ (fun _ w=>w.EH wJ 79)<|.bd hj3 fun l1 hl1 hj3=>.app (E:=wJ) hl1 O O O .z O O O O O O O O (oP EI O O) O O fun A4 c4=>?_;cases hj3;exact .be O<|.hE (A4,c4) O (zl [0] 1 O)
  refine .skip<|.AQ (fun _ w=>w.EH wJ 79) ?_;cases hj3;exact .AB<|.hE (none,0) O zw
 rintro ⟨A3,c3⟩;refine .seq<|.block<|.ab [2,9,11,13,14,15,59] O<|.cb h O (fun h=>?_) (fun h=>?_)
 ·refine .skip<|.BF<|.AB<|.pf [15] [0] 2 O O<|.ab [6] O ?_;cases h;exact .rv O O ⟨A3,c3,O,O⟩ zw
 refine .seq<|.bd h fun o5 GH h=>.cu 0 [2,9,11,13,14,15, .s 62 (.bool o5)] [] O O ?_ ?_
 ·refine .region<|.n 3 O<|.gs 65 GH O (fun GH=>?_) (fun GH=>?_)
  ·cases GH;exact .be O<|.hU O zw
  cases GH;exact .be O<|.hU O zw
 refine .cb h O (fun h=>?_) (fun h=>?_)
 ·refine .region<|.n 4 O<|.bS O fun g6=>.bd h fun l2 hl2 h=>.app (E:=wJ) hl2 O O O (.s .z) O O O O O O O O (oP (.head _) O O) O O fun A5 c5=>.p O O<|.done<|.BF<|.AB<|.pf [15] [0] 3 O O<|.ab [6] O ?_;cases h;exact .rv O O ⟨A5,c5,O,O⟩ zw
 refine .ab [2,9,11,13,15,76] O<|.cb h O (fun h=>?_) (fun h=>?_)
 ·refine .a 1 O<|.lb 3 2 O<|.p O O<|.lb 3 1 O<|.bf [2,15,84] [0] 2 O O<|.cb h O (fun h=>?_) (fun h=>?_)
  ·refine .region<|.n 3 O<|.bS O fun g7=>.bd h fun l3 hl3 h=>.app (E:=wJ) hl3 O O O (.s .z) O O O O O O O O (oP (.head _) O O) O O fun A6 c6=>.p O O<|.done<|.BF<|.AB<|.pf [15] [0] 1 O O<|.ab [6] O ?_;cases h;exact .rv O O ⟨A6,c6,O,O⟩ zw
  refine .skip<|.BF<|.AB<|.pr [15] O<|.ab [6] O ?_;cases h;exact .rv O O ⟨A3,c3,O,O⟩ zw
 refine .ab [2,9,11,15,90] O<|.cb h O (fun h=>?_) (fun h=>?_)
 ·refine .region<|.n 3 O<|.bS O fun g8=>.bd h fun l4 hl4 h=>.app (E:=wJ) hl4 O O O (.s .z) O O O O O O O O (oP (.head _) O O) O O fun A7 c7=>.p O O<|.done<|.BF<|.AB<|.pf [15] [0] 3 O O<|.ab [6] O ?_;cases h;exact .rv O O ⟨A7,c7,O,O⟩ zw
 refine .seq<|.region<|.lb 0 2 O<|.lb 0 1 O<|.bf [2,15,98] [0] 2 O O<|.cb h O (fun h=>?_) (fun h=>?_)
 ·refine .region<|.n 3 O<|.bS O fun g9=>.bd h fun l5 hl5 h=>.app (E:=wJ) hl5 O O O (.s .z) O O O O O O O O (oP (.head _) O O) O O fun A8 c8=>.p O O<|.done<|.BF<|.AB<|.pf [15] [0] 1 O O<|.ab [6] O ?_;cases h;exact .rv O O ⟨A8,c8,O,O⟩ zw
 refine .skip<|.BF<|.AB<|.pr [15] O<|.ab [6] O ?_;cases h;exact .rv O O ⟨A3,c3,O,O⟩ zw
theorem zVT:BV Tryz.prog 22:=en Tryz.func22 (by kernel_rfl)
def vZ [AO] (GU:(List zG)) (GV:(List zG)):Option ((List zT) × Int):=
 bnd ((bnd (tL GU) fun r1=>bif !r1 then (some true) else (bnd (tL GV) fun r2=>some (!r2)):Option Bool)) fun o1=>bif o1 then (some ([],1)) else (bnd (zI (τ:=List zT) (fun (s1:List zT × Int)=>bif decide (s1.2<16) then (bnd (qK GU GV s1.2) fun r3=>bnd (app 24 s1.1 r3) fun l1=>some (.next (l1,wrap .i64 (s1.2+1)))) else (some (.done s1.1))) ([],0)) fun o2=>some (o2,0))
theorem iH [AO] {GU GV A1 c1 A2 c2 r} (h:vZ GU GV=some r):
    AX Tryz.prog 22 [.slice A1 GU.length c1, .slice A2 GV.length c2] [.ro (BP vR A1 c1 GU), .ro (BP vR A2 c2 GV)] (fun v F=>∃ A3 c3,v= .tuple #[.slice A3 r.1.length c3, .int .i64 r.2]∧F= [.res (zD wJ 79 A3 c3 r.1)]):=by
 refine AX.intro Tryz.func22 O O O fun w R=>?_;refine .ab [0,1] O<|.seq<|.seq<|.bd h fun o1 hj1 h=>.cu 0 [0,1, .s 15 (.bool o1)] [] O O ?_ ?_
 ·refine .region<|.p O O<|.bd hj1 fun r1 hr1 hj1=>.cv [0] (kE hr1) Vu O<|.n 2 O<|.gs 11 hj1 O (fun hj1=>?_) (fun hj1=>?_)
  ·cases hj1;exact .be O<|.hU O zw
  refine .n 1 O<|.BR O O<|.bd hj1 fun r2 hr2 hj1=>.cv [1] (kE hr2) Vu O ?_;cases hj1;exact .be O<|.hU O zw
 refine .cb h O (fun h=>?_) (fun h=>?_)
 ·refine .EQ [4,5] [] 2 O O<|.AQ (fun _ w=>w.EH wJ 79) ?_;cases h;exact .rv O O ⟨none,0,O,O⟩ zw
 refine .sk<|.pr [0,1] O<|.ae O<|.seq<|.ae O<|.AQ (fun _ w=>w.EH wJ 79)<|.bd h fun o2 hl1 h=>.DZ 3 (fun (e3:Option Addr × Nat)=>[.s 6 (.slice e3.1 o2.length e3.2)]) (fun e3=>[.res (zD wJ 79 e3.1 e3.2 o2)]) O O ?_ ?_
 ·refine .block<|.BH hl1 1 (fun (s1:List zT × Int) (e2:Option Addr × Nat)=>[0,1, .s 6 (.slice e2.1 s1.1.length e2.2), .s 16 (.int .i64 s1.2)]) (fun s1 e2=>[.res (zD wJ 79 e2.1 e2.2 s1.1)]) O O (none,0) (zb O) (fun _ w=>w) ?_;rintro s1 ⟨A3,c3⟩ st1 hm1 hd1 h1;refine .ae O<|.seq<|.cb h1 O (fun h1=>?_) (fun h1=>?_)
  ·refine .sk<|.pr [0,1,6,16] O<|.seq<|.block<|.ab [0,1,6,7,16] O<|.region<|.n 4 O<|.bd h1 fun r3 hr3 h1=>.cr 4 [1,2] [] 0 (zBu hr3) zYv O fun A5 c5=>.AQ (fun _ w=>w.CO)<|.bd h1 fun l1 hl1 h1=>.app (E:=wJ) hl1 O O O (.s .z) O O O O O O O O (OB (.head _)) O O fun A6 c6=>.p O O<|.done<|.BF<|.AB<|.pf [0,1,6,16] [0] 1 O O<|.region ?_;cases h1;exact .be O<|.ag (A6,c6) hm1 O zw
  refine .xq O ?_;cases h1;cases hd1 _ rfl
  exact .AB<|.hE (A3,c3) O (zl [0] 2 O)
 rintro ⟨A4,c4⟩;refine .ab [4,5] O ?_;cases h;exact .rv O O ⟨A4,c4,O,O⟩ zw
theorem zYO:BV Tryz.prog 55:=en Tryz.func55 (by kernel_rfl)
def dE (EY:Int) (number:Int) (index:Int) (asserted:Bool):Option (zU × Int):=
 bnd ((bif decide (index<0) then (some true) else (some (decide (index>14))):Option Bool)) fun o1=>bif o1 then (some ((⟨0,0,0,0,0,0,false,(⟨0,0,0⟩:(dB Int))⟩:zU),2)) else (some ((⟨0,0,32,EY,number,111,!asserted,(⟨wrap .u8 index,255,255⟩:(dB Int))⟩:zU),0))
theorem zHG {EY number index asserted r} (h:dE EY number index asserted=some r):
    AX Tryz.prog 55 [.int .u8 EY, .int .u8 number, .int .i64 index, .bool asserted] [] (Val (.tuple #[.agg (jD r.1).toArray, .int .i64 r.2])):=by
 refine AX.intro Tryz.func55 O O O fun w R=>?_;refine .seq<|.region<|.alloc O O fun g1=>.b [0,1,2,3,8] O<|.seq<|.seq<|.bd h fun o1 hj1 h=>.cu 0 [0,1,2,3,8, .s 15 (.bool o1)] [] O O ?_ ?_
 ·refine .region<|.n 3 O<|.gs 12 hj1 O (fun hj1=>?_) (fun hj1=>?_)
  ·cases hj1;exact .be O<|.hU O zw
  cases hj1;exact .be O<|.hU O zw
 refine .cb h O (fun h=>?_) (fun h=>?_)
 ·refine .a 1 O<|.sb 0 0 O<|.b [8,9] O ?_;cases h;exact .rt O Tryz.results55 (.cell O (.head _) O (.tmp O .nil)) O ⟨O,O⟩ (zl [] 1 O)
 refine .sk<|.pr [0,1,2,3,8] O<|.a 8 O<|.sb 0 0 O<|.b [8,9] O ?_;cases h;exact .rt O Tryz.results55 (.cell O (.head _) O (.tmp O .nil)) O ⟨O,O⟩ (zl [] 1 O)
theorem zYA:BV Tryz.prog 23:=en Tryz.func23 (by kernel_rfl)
def sX [AO] (BM:(List zT)):Option ((List zU) × Int):=
 bnd (zI (τ:=((List zU) × Int) ⊕ List zU) (fun (s1:List zU × Int)=>bif decide (s1.2<(BM.length:Int)) then (bnd (AU BM s1.2) fun x1=>bnd ((bif decide (x1.Kind<1) then (some true) else (bif decide (x1.Kind>5) then (some true) else (bnd (wK x1.Slot) fun r1=>some (!r1))):Option Bool)) fun o3=>bif o3 then (some (.done (.inl ([],2)))) else (bnd (dE 37 (wrap .u8 x1.Slot) 0 (x1.Kind != 2)) fun r2=>bnd (app 20 s1.1 [(⟨r2.1.ID,r2.1.Time,r2.1.DF,r2.1.DI,r2.1.EU,r2.1.FC,r2.1.CY,(⟨r2.1.Data.e0,wrap .u8 x1.Kind,r2.1.Data.e2⟩:(dB Int))⟩:zU)]) fun l1=>some (.next (l1,wrap .i64 (s1.2+1))))) else (some (.done (.inr s1.1)))) ([],0)) fun o1=>wN o1 fun o2=>some (o2,0)
theorem zCp [AO] {BM A1 c1 r} (h:sX BM=some r):
    AX Tryz.prog 23 [.slice A1 BM.length c1] [.ro (BP wJ A1 c1 BM)] (fun v F=>∃ A2 c2,v= .tuple #[.slice A2 r.1.length c2, .int .i64 r.2]∧F= [.res (zD uP 76 A2 c2 r.1)]):=by
 refine AX.intro Tryz.func23 O O O fun w R=>?_;refine .ab [0] O<|.ae O<|.seq<|.ab [4,9,10,11] O<|.AQ (fun _ w=>w.EH uP 76)<|.bd h fun o1 hl1 h=>.EJ 2 (fun (o2:List zU) (e2:Option Addr × Nat)=>[.s 4 (.slice e2.1 o2.length e2.2)]) (fun o2 e2=>[.res (zD uP 76 e2.1 e2.2 o2)]) O O (fun o2=>o1= .inr o2) ?_ ?_
 ·refine .block<|.BH hl1 1 (fun (s1:List zU × Int) (e1:Option Addr × Nat)=>[.s 4 (.slice e1.1 s1.1.length e1.2),9,10, .s 11 (.int .i64 s1.2)]) (fun s1 e1=>[.res (zD uP 76 e1.1 e1.2 s1.1)]) O O (none,0) (zb O) (fun _ w=>w) ?_;rintro s1 ⟨A2,c2⟩ st1 hm1 hd1 h1;refine .ae O<|.seq<|.cb h1 O (fun h1=>?_) (fun h1=>?_)
  ·refine .sk<|.pr [4,9,10,11] O<|.seq<|.block<|.seq<|.region<|.bd h1 fun x1 hx1 h1=>.FB hx1 1 O fun b1 ED=>.ld ED 0 0 O<|.alloc O O fun g1=>.sb 0 0 O<|.bf [4,6,9,10,11] [0] 1 O O<|.seq<|.seq<|.bd h1 fun o3 hj1 h1=>.cu 0 [4,6,9,10,11, .s 28 (.bool o3)] [] O O ?_ ?_
   ·refine .region<|.p O O<|.lb 0 0 O<|.n 2 O<|.gs 18 hj1 O (fun hj1=>?_) (fun hj1=>?_)
    ·cases hj1;exact .be O<|.hU O zw
    refine .n 1 O<|.BR O O<|.lb 0 0 O<|.n 3 O<|.gs 23 hj1 O (fun hj1=>?_) (fun hj1=>?_)
    ·cases hj1;exact .be O<|.hU O zw
    refine .n 1 O<|.BR O O<|.lb 1 0 O<|.BR O O<|.bd hj1 fun r1 hr1 hj1=>.cv [] (qJ hr1) Jm O ?_;cases hj1;exact .be O<|.hU O zw
   refine .cb h1 O (fun h1=>?_) (fun h1=>?_)
   ·refine .EQ [2,3] [] 3 O O<|.AQ (fun _ w=>w.EH uP 76) ?_;cases h1;cases hd1 _ rfl
    have h:some _=some _:=h;cases h;exact .rv O O ⟨none,0,O,O⟩ zw
   refine .sk<|.pr [4,6,9,10,11] O<|.a 1 O<|.lb 1 0 O<|.n 2 O<|.lb 0 0 O<|.p O O<|.bd h1 fun r2 hr2 h1=>.cv [] (zHG hr2) zYO O<|.n 3 O<|.alloc O O fun g2=>.sb 0 0 O<|.b [4,6,7,9,10,11] O<|.a 1 O<|.lb 0 1 O<|.n 3 O<|.sb 8 0 O<|.bf [4,7,9,10,11] [0] 1 O O<|.region<|.p O O<|.lb 0 0 O<|.bS O fun g3=>.bd h1 fun l1 hl1 h1=>.app (E:=uP) hl1 O O O (FX 2 O) O O O O O O O O (oP (.head _) O O) O O fun A4 c4=>.p O O<|.done<|.BF<|.AB<|.pf [4,9,10,11] [0] 2 O O<|.region ?_;cases h1;exact .be O<|.ag (A4,c4) hm1 O zw
  refine .xq O ?_;cases h1;cases hd1 _ rfl
  exact .AB<|.DN s1.1 (A2,c2) O (zb O) (zl [0] 1 O)
 rintro o2 ⟨A3,c3⟩ ho;subst ho;have h:=IV h;refine .ab [2,3] O ?_;cases h;exact .rv O O ⟨A3,c3,O,O⟩ zw
theorem zYN:BV Tryz.prog 24:=en Tryz.func24 (by kernel_rfl)
def gB [AO] (EK:(List zG)) (HY:(List zG)):Option Bool:=
 bif ((EK.length:Int) != (HY.length:Int)) then (some false) else (bnd (zI (τ:=Bool ⊕ Unit) (fun (s1:Int)=>bif decide (s1<(EK.length:Int)) then (bnd (AU EK s1) fun x1=>bnd (AU HY s1) fun x2=>bif !((x1.Slot==x2.Slot)&&((x1.Good==x2.Good)&&((x1.AV.toList==x2.AV.toList)&&((x1.Sum==x2.Sum)&&true)))) then (some (.done (.inl false))) else (some (.next (wrap .i64 (s1+1))))) else (some (.done (.inr ())))) 0) fun o1=>wN o1 fun o2=>some true)
theorem zJI [AO] {EK HY A1 c1 A2 c2 r} (h:gB EK HY=some r):
    AX Tryz.prog 24 [.slice A1 EK.length c1, .slice A2 HY.length c2] [.ro (BP vR A1 c1 EK), .ro (BP vR A2 c2 HY)] (Val (.bool r)):=by
 refine AX.intro Tryz.func24 O O O fun w R=>?_;refine .ab [0,1] O<|.seq<|.ab [0,1,10] O<|.cb h O (fun h=>?_) (fun h=>?_)
 ·refine .EQ [4] [] 2 O O ?_;cases h;exact .rv O O ⟨O,O⟩ zw
 refine .sk<|.pr [0,1] O<|.seq<|.ae O<|.bd h fun o1 hl1 h=>.EJ 2 (fun (o2:Unit) (e2:Unit)=>[]) (fun o2 e2=>[]) O O (fun o2=>o1= .inr o2) ?_ ?_
 ·refine .block<|.BH hl1 0 (fun (s1:Int) (e1:Unit)=>[0,1, .s 5 (.int .i64 s1)]) (fun s1 e1=>[]) O O () (zb O) (fun _ w=>w) ?_;rintro s1 e1 st1 hm1 hd1 h1;refine .seq<|.ab [0,1,5,14] O<|.cb h1 O (fun h1=>?_) (fun h1=>?_)
  ·refine .sk<|.pr [0,1,5] O<|.seq<|.block<|.seq<|.regionF mixed (by kernel_rfl)<|.n 2 O<|.bd h1 fun x1 hx1 h1=>.FB hx1 0 O fun b1 ED=>.ld ED 0 0 O<|.n 2 O<|.bd h1 fun x2 hx2 h1=>.FB hx2 2 O fun b2 JA=>.ld JA 0 0 O<|.beq O<|.pf [0,1,5,25] [] 2 O O<|.cb h1 O (fun h1=>?_) (fun h1=>?_)
   ·refine .EQ [4] [] 2 O O ?_;cases h1;cases hd1 _ rfl
    have h:some _=some _:=h;cases h;exact .rv O O ⟨O,O⟩ zw
   refine .skip<|.BF<|.AB<|.pr [0,1,5] O<|.region ?_;cases h1;exact .be O<|.ag () hm1 O zw
  refine .xq O ?_;cases h1;cases hd1 _ rfl
  exact .AB<|.DN () () O trivial (zl [] 2 O)
 rintro o2 e2 ho;subst ho;have h:=IV h;refine .ae O ?_;cases h;exact .rv O O ⟨O,O⟩ zw
theorem zYD:BV Tryz.prog 26:=en Tryz.func26 (by kernel_rfl)
def sC [AO] (BJ:xG):Option (List zU):=
 bnd (zI (τ:=List zU) (fun (s1:List zU × Int)=>bif decide (s1.2<(BJ.records.length:Int)) then (bnd (AU BJ.records s1.2) fun x1=>bnd (app 20 s1.1 [x1.event]) fun l1=>some (.next (l1,wrap .i64 (s1.2+1)))) else (some (.done s1.1))) ([],0)) fun o1=>some o1
theorem bW [AO] {BJ A1 c1 BN ES r} (h:sC BJ=some r):
    AX Tryz.prog 26 [.pointer (some ⟨BN,0,none⟩)] [.res (Box BN 124 (wR BJ ES A1 c1)), .res (zD xV 155 A1 c1 BJ.records)] (fun v F=>∃ A2 c2,v= .slice A2 r.length c2∧F= [.res (Box BN 124 (wR BJ ES A1 c1)), .res (zD xV 155 A1 c1 BJ.records), .res (zD uP 76 A2 c2 r)]):=by
 refine AX.intro Tryz.func26 O O O fun w R=>?_;refine .ab [0] O<|.ae O<|.seq<|.a 3 O<|.lb 8 0 O<|.b [3,9,10,11] O<|.AQ (fun _ w=>w.EH uP 76)<|.bd h fun o1 hl1 h=>.DZ 1 (fun (e2:Option Addr × Nat)=>[.s 3 (.slice e2.1 o1.length e2.2)]) (fun e2=>[.res (zD uP 76 e2.1 e2.2 o1)]) O O ?_ ?_
 ·refine .block<|.BH hl1 1 (fun (s1:List zU × Int) (e1:Option Addr × Nat)=>[.s 3 (.slice e1.1 s1.1.length e1.2),9,10, .s 11 (.int .i64 s1.2)]) (fun s1 e1=>[.res (zD uP 76 e1.1 e1.2 s1.1)]) O O (none,0) (zb O) (fun _ w=>w) ?_;rintro s1 ⟨A2,c2⟩ st1 hm1 hd1 h1;refine .ae O<|.seq<|.cb h1 O (fun h1=>?_) (fun h1=>?_)
  ·refine .sk<|.pr [3,9,10,11] O<|.seq<|.block<|.seq<|.region<|.bd h1 fun x1 hx1 h1=>.II hx1 2 O fun g1 hA=>?_;subst hA;refine .EZ 0 hx1 O O (zm 2 O) O O<|.alloc O O fun g2=>.sb 0 0 O<|.b [3,5,9,10,11] O<|.region<|.n 2 O<|.lb 1 0 O<|.bS O fun g3=>.bd h1 fun l1 hl1 h1=>.app (E:=uP) hl1 O O O (FX 2 O) O O O O O O O O (oP (.head _) O O) O O fun A4 c4=>.p O O<|.done<|.BF<|.AB<|.pf [3,9,10,11] [0] 2 O O<|.region ?_;cases h1;exact .be O<|.ag (A4,c4) hm1 O zw
  refine .xq O ?_;cases h1;cases hd1 _ rfl
  exact .AB<|.hE (A2,c2) O zw
 rintro ⟨A3,c3⟩;refine .ab [2] O ?_;cases h;exact .rv O O ⟨A3,c3,O,O⟩ (zl [1,1] 0 O)
def kT [AO] (BM:(List Int)) (KW:(List Int)) (order:(List Int)):Option Bool:=
 bnd (aC) fun r1=>bif !r1 then (some false) else (bnd ((bnd (kG BM) fun r2=>bif !r2 then (some true) else (bnd (kG KW) fun r3=>bif !r3 then (some true) else (some (decide ((order.length:Int)>40)))):Option Bool)) fun o1=>bif o1 then (some true) else (bnd (jT BM) fun r4=>bnd (wL r4 2) fun r5=>bnd (zI (τ:=Bool ⊕ (List xN × List Int × Int)) (fun (s1:List xN × Int × List Int × Int)=>bif decide (s1.2.1<16) then (bnd (FY (⟨#[65,66,67,68,69,70,71,72,73,74,75,76,77,78,79,80]⟩) s1.2.1 (wrap .i64 (s1.2.1+1))) fun t1=>bnd (JK (⟨#[83,78]⟩) t1) fun t2=>bnd (pB (⟨s1.2.2.1,s1.2.2.2⟩:sE) (⟨#[48,49,50,51]⟩) 2) fun r6=>bnd (JK t2 r6.2) fun t3=>bnd (qT r6.1) fun r7=>bnd (tM t3 r7.2) fun r8=>bnd (tQ r8) fun r9=>bif (r9.2 != 0) then (some (.done (.inl false))) else (bnd (app 32 s1.1 [(⟨s1.2.1,r9.1⟩:xN)]) fun l1=>bnd (wL r7.1 3) fun r10=>some (.next (l1,wrap .i64 (s1.2.1+(wrap .i64 (1+r10.2))),r10.1.L,r10.1.At)))) else (some (.done (.inr (s1.1,s1.2.2.1,s1.2.2.2))))) ([],r5.2,r5.1.L,r5.1.At)) fun o2=>wN o2 fun o3=>bnd (jT KW) fun r11=>bnd (app 32 ([]) o3.1) fun l2=>bnd (zI (τ:=List xN × List Int × Int) (fun (s2:List xN × Int × List Int × Int)=>bnd ((bif decide ((wrap .i64 (s2.2.1+1))<(order.length:Int)) then (some (decide ((s2.1.length:Int)>0))) else (some false):Option Bool)) fun o5=>bif o5 then (bnd (AU order s2.2.1) fun x1=>bnd (oR x1 (s2.1.length:Int)) fun r12=>bnd (AU order (wrap .i64 (s2.2.1+1))) fun x2=>bnd (oR x2 (s2.1.length:Int)) fun r13=>bnd (AU s2.1 r13) fun x3=>bnd (AU s2.1 r13) fun x4=>bnd (AU s2.1 r12) fun x5=>bnd (AU s2.1 r12) fun x6=>bnd (xJ s2.1 r12 (⟨x6.Slot,x4.Data⟩:xN)) fun l3=>bnd (AU l3 r13) fun x7=>bnd (xJ l3 r13 (⟨x7.Slot,x5.Data⟩:xN)) fun l4=>bnd (uZ (⟨s2.2.2.1,s2.2.2.2⟩:sE) 6) fun QS=>bif QS.2 then (bnd (sub l4 0 r12) fun l5=>bnd (sub l4 (wrap .i64 (r12+1)) (l4.length:Int)) fun l6=>bnd (app 32 ([]) l5) fun l7=>bnd (app 32 l7 l6) fun l8=>some (.next (l8,wrap .i64 (s2.2.1+2),QS.1.L,QS.1.At))) else (some (.next (l4,wrap .i64 (s2.2.1+2),QS.1.L,QS.1.At)))) else (some (.done (s2.1,s2.2.2.1,s2.2.2.2)))) (l2,0,r11.L,r11.At)) fun o4=>bnd (lC 5 1024) fun Jo=>SA Jo.1 (some false) (fun q1=>bif (Jo.2 != 0) then (some false) else (bnd (wX q1 0) fun r16=>SA r16.2.1 (bnd (uT r16.1 2 3 false) fun Vy=>SA Vy.2.1 (some false) (fun q3=>some false)) (fun q2=>bnd (uT r16.1 2 3 false) fun iy=>SA iy.2.1 (some false) (fun q4=>bnd ((bif (r16.2.2 != 0) then (some true) else (some (iy.2.2 != 0)):Option Bool)) fun o6=>bif o6 then (some false) else (bnd (uM o3.1) fun Jp=>bnd (qW Jp.1) fun Vz=>bnd ((bif (Jp.2 != 0) then (some (true,iy.1,q2)) else (bif (Vz.2 != 0) then (some (true,iy.1,q2)) else (bnd (xT q2 Vz.1 iy.1) fun Jq=>some ((Jq.2.2 != 0),Jq.2.1,Jq.1))):Option (Bool × zA × yD))) fun o7=>bif o7.1 then (some false) else (bnd (wX o7.2.1 0) fun r22=>SA r22.2.1 (some false) (fun q5=>bif (r22.2.2 != 0) then (some false) else (bnd (vF q5) fun r23=>bnd (sK r23) fun Jr=>bnd (uM o4.1) fun r25=>bnd (vZ Jr.1 r25.1) fun ja=>bnd (sX ja.1) fun r27=>bnd ((bif (Jr.2 != 0) then (some true) else (bif (r25.2 != 0) then (some true) else (bif (ja.2 != 0) then (some true) else (bif (r27.2 != 0) then (some true) else (bnd (gB Jr.1 Jp.1) fun r28=>bif !r28 then (some true) else (some ((r27.1.length:Int) != (ja.1.length:Int))))))):Option Bool)) fun o8=>bif o8 then (some false) else (bnd (zI (τ:=Bool ⊕ (xG × zA)) (fun (s3:xG × zA × Int)=>bif decide (s3.2.2<(r27.1.length:Int)) then (bnd (AU r27.1 s3.2.2) fun x8=>bnd (wW s3.1 x8 s3.2.1) fun YR=>bif (YR.2.2.2 != 0) then (some (.done (.inl false))) else (some (.next (YR.1,YR.2.1,wrap .i64 (s3.2.2+1))))) else (some (.done (.inr (s3.1,s3.2.1))))) (q4,r22.1,0)) fun o9=>wN o9 fun WG=>bnd (qW r25.1) fun Wh=>bnd ((bif (Wh.2 != 0) then (some (true,q5,WG.2)) else (bnd (xT q5 Wh.1 WG.2) fun Js=>some ((Js.2.2 != 0),Js.1,Js.2.1)):Option (Bool × yD × zA))) fun jc=>bif jc.1 then (some false) else (bnd (wX jc.2.2 0) fun r32=>SA r32.2.1 (bnd (uT r32.1 2 3 false) fun Wi=>SA Wi.2.1 (some false) (fun q7=>some false)) (fun q6=>bnd (uT r32.1 2 3 false) fun Jt=>SA Jt.2.1 (some false) (fun q8=>bnd ((bif (r32.2.2 != 0) then (some true) else (some (Jt.2.2 != 0)):Option Bool)) fun Wj=>bif Wj then (some false) else (bnd (vF q6) fun r35=>bnd (sK r35) fun Wl=>bnd (vZ Wl.1 r25.1) fun Wn=>bnd (sC q8) fun r38=>bnd (zI (τ:=Bool ⊕ List zU) (fun (s4:Int × List zU)=>bnd ((bif decide (s4.1<(s4.2.length:Int)) then (some (decide (s4.1<(ja.1.length:Int)))) else (some false):Option Bool)) fun Cb=>bif Cb then (bnd ((bnd (AU s4.2 s4.1) fun x9=>bnd (AU ja.1 s4.1) fun x10=>bif ((wrap .i64 x9.EU) != x10.Slot) then (some (s4.2,true)) else (bif ((wrap .i64 x9.Data.e1) != x10.Kind) then (some (s4.2,true)) else (some (s4.2,!(x9.CY==(x10.Kind==2))))):Option (List zU × Bool))) fun o16=>bif o16.2 then (some (.done (.inl false))) else (some (.next (wrap .i64 (s4.1+1),o16.1)))) else (some (.done (.inr s4.2)))) (0,r38)) fun Wp=>wN Wp fun YS=>bnd ((bif (Wl.2==0) then (bif (Wn.2==0) then (bif ((Wn.1.length:Int)==0) then (some ((YS.length:Int)==(ja.1.length:Int))) else (some false)) else (some false)) else (some false):Option Bool)) fun Wq=>some Wq)))))))))))))))
theorem zEp [AO] {BM KW order A1 c1 A2 c2 A3 c3 r} (h:kT BM KW order=some r):
    AX Tryz.prog 3 [.slice A1 BM.length c1, .slice A2 KW.length c2, .slice A3 order.length c3] [.ro (BP xA A1 c1 BM), .ro (BP xA A2 c2 KW), .ro (BP xA A3 c3 order), .ro (BP xA (some ⟨0,0,none⟩) 3 ([2,5,7]:List Int)), .ro (BP AP (some ⟨1,0,none⟩) 6 ([0,2,4,7,9,11]:List Int))] (Val (.bool r)):=by
 refine AX.intro Tryz.func3 O O O fun w R=>?_;refine .ab [0,1,2] O<|.seq<|.seq<|.region<|.bd h fun r1 hr1 h=>.cv [4] (zJF hr1) zZe O<|.b [0,1,2,38] O<|.cb h O (fun h=>?_) (fun h=>?_)
 ·refine .EQ [6] [] 3 O O ?_;cases h;exact .rv O O ⟨O,O⟩ (zl [] 2 O)
 refine .sk<|.pr [0,1,2] O<|.seq<|.seq<|.bd h fun o1 hj1 h=>.cu 0 [0,1,2, .s 51 (.bool o1)] [] O O ?_ ?_
 ·refine .region<|.p O O<|.bd hj1 fun r2 hr2 hj1=>.cv [0] (zDr hr2) zYt O<|.n 2 O<|.gs 42 hj1 O (fun hj1=>?_) (fun hj1=>?_)
  ·cases hj1;exact .be O<|.hU O zw
  refine .n 1 O<|.BR O O<|.bd hj1 fun r3 hr3 hj1=>.cv [1] (zDr hr3) zYt O<|.n 3 O<|.gs 47 hj1 O (fun hj1=>?_) (fun hj1=>?_)
  ·cases hj1;exact .be O<|.hU O zw
  cases hj1;exact .be O<|.hU O zw
 refine .cb h O (fun h=>?_) (fun h=>?_)
 ·refine .EQ [6] [] 3 O O ?_;cases h;exact .rv O O ⟨O,O⟩ (zl [] 2 O)
 refine .sk<|.pr [0,1,2] O<|.a 1 O<|.bd h fun r4 hr4 h=>.call (zEN hr4) zYc O O O (zd [0] [] 0 O) ?_;rintro _ _ ⟨g1,A4,c4,rfl,rfl⟩;refine .nm 7 O<|.bf [1,2,7] [0,0] 1 O O<|.ae O<|.seq<|.a 1 O<|.bd h fun r5 JF h=>.cr 7 [1] [1] 0 (sL JF) qw O fun A5 c5=>.bf [1,2,7,8,9] [0,0] 1 O O<|.AQ (fun _ w=>w.LP (yL uG) 43)<|.bd h fun o2 hl1 h=>.EJ 3 (fun (o3:List xN × List Int × Int) (e3:Option Addr × Nat × Option Addr × Nat)=>[1,2, .s 8 (.slice e3.1 o3.1.length e3.2.1)]) (fun o3 e3=>[.res (uD (yL uG) 43 e3.1 e3.2.1 o3.1)]) O O (fun o3=>o2= .inr o3) ?_ ?_
 ·refine .block<|.BH hl1 3 (fun (s1:List xN × Int × List Int × Int) (e2:Option Addr × Nat × Option Addr × Nat)=>[1,2,7, .s 8 (.slice e2.1 s1.1.length e2.2.1), .s 9 (.int .i64 s1.2.1)]) (fun s1 e2=>[.ro (BP xA e2.2.2.1 e2.2.2.2 s1.2.2.1), .res (uD (yL uG) 43 e2.1 e2.2.1 s1.1), .res (Box g1 101 [.slice e2.2.2.1 s1.2.2.1.length e2.2.2.2, .int .i64 s1.2.2.2])]) O O (none,0,A5,c5) (zb O) (zl [1] 0 O) ?_;rintro s1 ⟨A6,c6,A7,c7⟩ st1 hm1 hd1 h1;refine .seq<|.ab [1,2,7,8,9,57] O<|.cb h1 O (fun h1=>?_) (fun h1=>?_)
  ·refine .sk<|.pr [1,2,7,8,9] O<|.seq<|.block<|.seq<|.BG (iN [0,4,8,12,16,20,32,27,28,39,43,47,48,52,56,60,64] .nil) _ mixed (by kernel_rfl) (zl [0,0] 1 O)<|.yn 3 O<|.bd h1 fun t1 ht1 h1=>.IG (fun _ h=>h) (Rd.FY ht1 O O O O O) O<|.bd h1 fun t2 ht2 h1=>.IG (fun _ h=>h) (Rd.JK ht2 O O) O<|.yn 2 O<|.BZ<|.bd h1 fun r6 KZ h1=>.cr 8 [1] [2] 0 (zDG KZ) zYC O fun MR c10=>.xk (zl [] 2 O)<|.bd h1 fun t3 ht3 h1=>.IG (fun _ h=>h) (Rd.JK ht3 O O) O<|.BZ<|.bd h1 fun r7 PI h1=>.cr 9 [1] [1] 0 (zEe PI) zYl O fun OQ c11=>.xk (zl [] 3 O)<|.BZ<|.bd h1 fun r8 SH h1=>.call (zCA SH) zZg O O O (fun _ w=>w) ?_;rintro _ _ ⟨WE,c12,MQ,c13,LD,c14,PK,c15,rfl,rfl⟩;refine .nm 13 O<|.xk (zl [] 7 O)<|.BZ<|.bd h1 fun r9 XH h1=>.cr 14 [0,1,2,3,11] [] 0 (zCS XH) zZf O fun SK c16=>.xk (zl [] 8 O)<|.yn 5 O<|.BX<|.AB<|.pf [1,2,7,8,9,10,11] [0,4,4] 6 O O<|.seq<|.ab [1,2,7,8,9,10,79] O<|.cb h1 O (fun h1=>?_) (fun h1=>?_)
   ·refine .EQ [6] [] 6 O O ?_;cases h1;cases hd1 _ rfl
    have h:some _=some _:=h;cases h;exact .rv O O ⟨O,O⟩ (zl [] 2 O)
   refine .sk<|.pr [1,2,7,8,9,10] O<|.region<|.n 4 O<|.bS O fun g2=>.bd h1 fun l1 hl1 h1=>.AQ (fun _ w=>(w.sl [1] 0 O).CO)<|.NQ (E:=(yL uG)) hl1 O O O (FX 4 O) O O O O O O O O (zf (ls:=uG) [((⟨s1.2.1,r9.1⟩:xN),((SK,c16),()))] EI O O O ⟨(.head _),trivial⟩) O O fun TJ c17=>.p O O<|.done<|.BF<|.AB<|.pf [1,2,7,8,9] [0] 2 O O<|.region<|.n 2 O<|.bd h1 fun r10 NT h1=>.cr 8 [2] [2] 0 (sL NT) qw O fun VB c18=>?_;cases h1;exact .be O<|.ag (TJ,c17,VB,c18) hm1 O (zl [0,1,0] 1 O)
  refine .xq O ?_;cases h1;cases hd1 _ rfl
  exact .AB<|.DN (s1.1,s1.2.2.1,s1.2.2.2) (A6,c6,A7,c7) O (zb O) (zl [1] 2 O)
 rintro o3 ⟨A8,c8,A9,c9⟩ ho;subst ho;have h:=IV h;refine .a 1 O<|.bd h fun r11 UJ h=>.call (zEN UJ) zYc O O O (zd [1] [] 0 O) ?_;rintro _ _ ⟨g3,SL,c19,rfl,rfl⟩;refine .nm 7 O<|.bf [2,8,12] [0,0,0] 1 O O<|.a 1 O<|.AQ (fun _ w=>(w.sl [2] 0 O).IZ)<|.AQ (fun _ w=>w.LP (yL uG) 43)<|.bd h fun l2 hl2 h=>.NQ (E:=(yL uG)) hl2 O O O .z O O O O O O O O (Ho EI) O O fun VD c20=>.b [2,8,12,13] O<|.seq<|.ae O<|.bd h fun o4 hl2 h=>.DZ 5 (fun (e5:Option Addr × Nat × Option Addr × Nat)=>[8, .s 13 (.slice e5.1 o4.1.length e5.2.1)]) (fun e5=>[.res (uD (yL uG) 43 e5.1 e5.2.1 o4.1),1]) O O ?_ ?_
 ·refine .block<|.BH hl2 4 (fun (s2:List xN × Int × List Int × Int) (e4:Option Addr × Nat × Option Addr × Nat)=>[2,8,12, .s 13 (.slice e4.1 s2.1.length e4.2.1), .s 14 (.int .i64 s2.2.1)]) (fun s2 e4=>[.ro (BP xA e4.2.2.1 e4.2.2.2 s2.2.2.1), .res (uD (yL uG) 43 e4.1 e4.2.1 s2.1),1, .res (Box g3 101 [.slice e4.2.2.1 s2.2.2.1.length e4.2.2.2, .int .i64 s2.2.2.2])]) O O (VD,c20,SL,c19) (zb O) (zl [2] 0 O) ?_;rintro s2 ⟨YQ,c21,qo,qp⟩ st2 hm2 hd2 h2;refine .seq<|.seq<|.bd h2 fun o5 hj2 h2=>.cu 0 [2,8,12,13,14, .s 99 (.bool o5)] [] O O ?_ ?_
  ·refine .region<|.n 6 O<|.gs 95 hj2 O (fun hj2=>?_) (fun hj2=>?_)
   ·cases hj2;exact .be O<|.hU O zw
   cases hj2;exact .be O<|.hU O zw
  refine .cb h2 O (fun h2=>?_) (fun h2=>?_)
  ·refine .sk<|.pr [2,8,12,13,14] O<|.seq<|.block<|.seq<|.regionF mixed (by kernel_rfl)<|.n 2 O<|.bd h2 fun x1 hx1 h2=>.FB hx1 4 O fun b1 ED=>.ld ED 0 0 O<|.n 2 O<|.bd h2 fun r12 Ws h2=>.cv [] (Vm Ws) Vl O<|.n 3 O<|.bd h2 fun x2 hx2 h2=>.FB hx2 5 O fun b2 JA=>.ld JA 0 0 O<|.n 2 O<|.bd h2 fun r13 Wu h2=>.cv [] (Vm Wu) Vl O<|.beq O<|.pf [2,8,12,13,14,15,16] [] 2 O O<|.seq<|.bd h2 fun x3 hx3 h2=>.LQ EI hx3 fun g4 hA=>?_;subst hA;refine .bd h2 fun x4 hx4 h2=>.bd h2 fun x5 hx5 h2=>.bd h2 fun x6 hx6 h2=>.bd h2 fun l3 hl3 h2=>.bd h2 fun x7 hx7 h2=>.bd h2 fun l4 hl4 h2=>.BG (iN [0,4,8,12,16,20,24,28,36,40,44,48] (.alt (iN [35] (iN [55,57,60] (iN [67,69,72] (iN [79] .nil)))) (iN [55] (iN [35,57,60] (iN [67,69,72] (iN [79] .nil)))))) _ mixed (by kernel_rfl) (zl [0] 1 O)<|.EC (Y:=?JE) 0 (fun (e:Option Addr × Nat × Option Addr × Nat)=>[2,8,12,13,14,15, .s 117 (.slice (some ⟨g4,0,none⟩) s2.1.length c21), .s 118 (.int .i64 r12), .s 119 (.slice (some ⟨g4,0,none⟩) s2.1.length c21), .s 120 (.int .i64 r13), .s 125 (.slice e.1 x4.Data.length e.2.1), .s 130 (.slice e.2.2.1 x5.Data.length e.2.2.2), .s 131 (.pointer (some ⟨g4,Int.toNat r12*2,none⟩)), .s 132 (.pointer (some ⟨g4,Int.toNat r12*2+1,none⟩))]) (fun e=>[.ro (BP AP e.2.2.1 e.2.2.2 x5.Data), .ro (BP AP e.1 e.2.1 x4.Data)]) O O (fun DT=>?EW) ?EX
   case EW=>
    refine .yn 6 O<|.IG (fun _ h=>h) (Rd.KH (n':=2) hx4 O O O O O O O) O<|.yn 3 O<|.IG (fun _ h=>h) (Rd.KH (n':=2) hx5 O O O O O O O) O<|.yn 1 O<|.GZ ?_ ?_
    ·refine .BZ<|.YE (ls:=uG) 1 (fun ex=>.slice ex.1.1 x4.Data.length ex.1.2) hx4 O O EI O (fun _=>O) fun JD=>?_;obtain ⟨⟨Cc,c25⟩,_⟩:=JD;refine .nm 8 O<|.xk (zl [1] 2 O)<|.BZ<|.YE (ls:=uG) 1 (fun ex=>.slice ex.1.1 x5.Data.length ex.1.2) hx5 O O (zm 2 O) O (fun _=>O) fun SN=>?_;obtain ⟨⟨Ce,Cf⟩,_⟩:=SN;refine .nm 9 O<|.xk (zl [2] 3 O)<|.DR (Rd.KH (n':=2) hx6 O O O O O O O) O<|.yn 1 O ?_;refine DT _ _ (Cc,c25,Ce,Cf) ?_ ?_
     ·exact ⟨O,O,O,O,O,O,O,O,O,O,O,O,O,O,trivial⟩
     exact fun _ w=>w
    refine .BZ<|.YE (ls:=uG) 1 (fun ex=>.slice ex.1.1 x5.Data.length ex.1.2) hx5 O O EI O (fun _=>O) fun SN=>?_;obtain ⟨⟨Ce,Cf⟩,_⟩:=SN;refine .nm 8 O<|.xk (zl [1] 2 O)<|.BZ<|.YE (ls:=uG) 1 (fun ex=>.slice ex.1.1 x4.Data.length ex.1.2) hx4 O O (zm 2 O) O (fun _=>O) fun JD=>?_;obtain ⟨⟨Cc,c25⟩,_⟩:=JD;refine .nm 9 O<|.xk (zl [2] 3 O)<|.DR (Rd.KH (n':=2) hx6 O O O O O O O) O<|.yn 1 O ?_;refine DT _ _ (Cc,c25,Ce,Cf) ?_ ?_
    ·exact ⟨O,O,O,O,O,O,O,O,O,O,O,O,O,O,trivial⟩
    exact fun _ w=>(w.sl [1] 0 O)
   case EX=>
    rintro ⟨Cc,c25,Ce,Cf⟩;refine .nm 9 O<|.BZ<|.yw (ls:=uG) 1 (fun ex=>((Cc,c25),())) hx6 hl3 O O (FX 3 O) O O O O (fun _=>O) (fun _=>⟨(zm 2 O),trivial⟩) ?_;refine .ss 13 (zF hl3) ?_;refine .ss 117 (zF hl3) ?_;refine .ss 119 (zF hl3)<|.xk (zl [] 3 O)<|.DR (Rd.KH (n':=2) hx7 O O O O O O O) O<|.yn 1 O<|.BZ<|.yw (ls:=uG) 1 (fun ex=>((Ce,Cf),())) hx7 hl4 O O .z O O O O (fun _=>O) (fun _=>⟨EI,trivial⟩) ?_;refine .ss 13 (zF hl4) ?_;refine .ss 117 (zF hl4) ?_;refine .ss 119 (zF hl4)<|.xk (zl [] 3 O)<|.BX<|.AB<|.pf [2,8,12,13,14,15] [0] 2 O O<|.a 1 O<|.bd h2 fun QS Wv h2=>.cr 8 [2] [3] 0 (bG Wv) zVS O fun Ju Jv=>.bf [2,8,12,13,14,15,136] [0,0,0] 1 O O<|.cb h2 O (fun h2=>?_) (fun h2=>?_)
    ·refine .AQ (fun _ w=>(w.sl [2] 0 O).IZ)<|.BG (iN [0,4,9,16,20,24,28,15,35,36] .nil) _ mixed (by kernel_rfl) zw<|.yn 2 O<|.bd h2 fun l5 hl5 h2=>.LU (.head _) hl5 fun A28 c28 hS1=>?_;have hc1:=fun w h=>Sat.QA hS1 (.head _) hl5 ((fun (w:World) (h:Sat (.ro (Sl (yL uG) (some ⟨g4,0,none⟩) c21 l4):: .ro (BP xA Ju Jv QS.1.L):: .res (Box g3 101 [.slice Ju QS.1.L.length Jv, .int .i64 QS.1.At]):: .ro (Sl (yL uG) A8 c8 o3.1):: .ro (BP xA A3 c3 order):: .ro (BP xA (some ⟨0,0,none⟩) 3 ([2,5,7]:List Int)):: .ro (BP AP (some ⟨1,0,none⟩) 6 ([0,2,4,7,9,11]:List Int))::R) w)=>h) w h);refine .DR (Rd.sub hS1 hl5 EI O O O O O O O O) O<|.yn 3 O<|.bd h2 fun l6 MI h2=>.LU EI MI fun A29 c29 hS2=>?_;have hc2:=fun w h=>Sat.QA hS2 EI MI (hc1 w h);refine .IG hc2 (Rd.sub hS2 MI (zm 2 O) O O O O O O O O) O<|.BZ<|.AQ (fun _ w=>w.LP (yL uG) 43)<|.bd h2 fun l7 SE h2=>.NQ (E:=(yL uG)) SE O O O .z O O O O O O O O (Ho H7) O O fun A30 c30=>.xk (zl [] 3 O)<|.BZ<|.bd h2 fun l8 QE h2=>.NQ (E:=(yL uG)) QE O O O .z O O O O O O O O (Ho EI) O O fun A31 c31=>.xk (zl [] 3 O)<|.yn 1 O<|.BX<|.BF<|.AB<|.pf [2,8,12,13,14] [0] 3 O O<|.region ?_;cases h2;exact .be O<|.ag (A31,c31,Ju,Jv) hm2 O (zl [1,0,1] 0 O)
    refine .skip<|.BF<|.AB<|.pr [2,8,12,13,14] O<|.region ?_;cases h2;exact .be O<|.ag ((some ⟨g4,0,none⟩),c21,Ju,Jv) hm2 O (zl [0,1,1] 0 O)
  refine .xq O ?_;cases h2;cases hd2 _ rfl
  exact .AB<|.hE (YQ,c21,qo,qp) O (zl [1,1] 3 O)
 rintro ⟨Vg,c23,A24,c24⟩;refine .seq<|.region<|.bd h fun Jo Wx h=>.call (zEO Wx) zVM O O O (fun _ w=>w) ?_
 intro v_ F_ FU
 rcases hq1:Jo.1 with _ | q1
 ·replace FU:=YJ hq1 FU;replace h:=eZ hq1 h;obtain ⟨rfl,rfl⟩:=FU;refine .nm 4 O<|.b [8,13,17,18] O<|.seq<|.ab [8,13,17,155] O<|.EF O<|.EQ [6] [] 2 O O ?_;cases h;exact .rv O O ⟨O,O⟩ (zl [] 2 O)
 replace FU:=eU hq1 FU;replace h:=eN hq1 h;obtain ⟨g9,A32,c32,A33,c33,rfl,rfl⟩:=FU;refine .nm 7 O<|.b [8,13,17,18] O<|.seq<|.ab [8,13,17,155] O<|.cb h O (fun h=>?_) (fun h=>?_)
 ·refine .EQ [6] [] 5 O O ?_;cases h;exact .rv O O ⟨O,O⟩ (zl [] 2 O)
 refine .sk<|.pr [8,13,17] O<|.a 1 O<|.bd h fun r16 Wy h=>.call (iC Wy) Vs O O O (fun _ w=>w) ?_
 intro v_ F_ FU
 rcases hq2:r16.2.1 with _ | q2
 ·replace FU:=YJ hq2 FU;replace h:=eZ hq2 h;obtain ⟨A34,c34,A35,c35,rfl,rfl⟩:=FU;refine .nm 7 O<|.b [8,13,17,18,19] O<|.a 1 O<|.bd h fun Vy Xa h=>.call (pT Xa) Bz O O O (fun _ w=>w) ?_
  intro v_ F_ FU
  rcases hq3:Vy.2.1 with _ | q3
  ·replace FU:=YJ hq3 FU;replace h:=eZ hq3 h;obtain ⟨A38,c38,A39,c39,rfl,rfl⟩:=FU;refine .nm 7 O<|.b [8,13,17,18,19,20,21] O<|.seq<|.ab [8,13,17,19,20,179] O<|.EF O<|.EQ [6] [] 5 O O ?_;cases h;exact .rv O O ⟨O,O⟩ (zl [] 2 O)
  replace FU:=eU hq3 FU;replace h:=eN hq3 h;obtain ⟨g11,A40,c40,A41,c41,A42,c42,rfl,rfl⟩:=FU;refine .nm 9 O<|.b [8,13,17,18,19,20,21] O<|.seq<|.ab [8,13,17,19,20,179] O<|.EF O<|.EQ [6] [] 7 O O ?_;cases h;exact .rv O O ⟨O,O⟩ (zl [] 2 O)
 replace FU:=eU hq2 FU;replace h:=eN hq2 h;obtain ⟨g10,A36,c36,A37,c37,M1,rfl,rfl⟩:=FU;refine .nm 9 O<|.b [8,13,17,18,19] O<|.a 1 O<|.bd h fun iy Xb h=>.call (pT Xb) Bz O O O (fun _ w=>w) ?_
 intro v_ F_ FU
 rcases hq4:iy.2.1 with _ | q4
 ·replace FU:=YJ hq4 FU;replace h:=eZ hq4 h;obtain ⟨A43,c43,A44,c44,rfl,rfl⟩:=FU;refine .nm 9 O<|.b [8,13,17,18,19,20,21] O<|.seq<|.ab [8,13,17,19,20,179] O<|.EF O<|.EQ [6] [] 7 O O ?_;cases h;exact .rv O O ⟨O,O⟩ (zl [] 2 O)
 replace FU:=eU hq4 FU;replace h:=eN hq4 h;obtain ⟨g12,A45,c45,A46,c46,A47,c47,rfl,rfl⟩:=FU;refine .nm 11 O<|.b [8,13,17,18,19,20,21] O<|.seq<|.seq<|.bd h fun o6 hj3 h=>.cu 0 [8,13,17,19,20, .s 179 (.bool o6)] [] O O ?_ ?_
 ·refine .region<|.n 11 O<|.gs 176 hj3 O (fun hj3=>?_) (fun hj3=>?_)
  ·cases hj3;exact .be O<|.hU O zw
  cases hj3;exact .be O<|.hU O zw
 refine .cb h O (fun h=>?_) (fun h=>?_)
 ·refine .EQ [6] [] 9 O O ?_;cases h;exact .rv O O ⟨O,O⟩ (zl [] 2 O)
 refine .sk<|.pr [8,13,17,19,20] O<|.a 1 O<|.bd h fun Jp Xc h=>.cr 12 [8,9] [] 0 (iA Xc) zVO O fun A48 c48=>.bf [13,17,18,19,20,22] [0,0,0,0,0,0,0,0,0] 1 O O<|.a 1 O<|.AQ (fun _ w=>w.CO)<|.bd h fun Vz Xd h=>.cr 12 [0] [] 0 (cE Xd) zVg O fun A49 c49=>.b [13,17,18,19,20,21,22,23] O<|.seq<|.seq<|.bd h fun o7 EL h=>.DZ 9 (fun (e8:Option Addr × Nat × Option Addr × Nat × Option Nat)=>[13,17,20,22, .s 201 (.bool o7.1)]) (fun e8=>[.res (zD xA 3 e8.2.2.1 e8.2.2.2.1 o7.2.1.AY), .res (zD AP 5 e8.1 e8.2.1 o7.2.1.bytes),1, .res (Box g9 112 (zJ o7.2.1 e8.1 e8.2.1 e8.2.2.1 e8.2.2.2.1)),5,6]) O O ?_ ?_
 ·refine .region<|.n 3 O<|.gs 192 EL O (fun EL=>?_) (fun EL=>?_)
  ·cases EL;exact .be O<|.hE (A45,c45,A46,c46,M1) O (zl [4,3,1,1,1,1] 3 O)
  refine .n 4 O<|.gs 196 EL O (fun EL=>?_) (fun EL=>?_)
  ·cases EL;exact .be O<|.hE (A45,c45,A46,c46,M1) O (zl [4,3,1,1,1,1] 3 O)
  refine .n 2 O<|.BR O O<|.AQ (fun _ w=>w.IZ)<|.bd EL fun Jq Xe EL=>.call (lG (BN:=g10) (ES:=g9) Xe) zVo O O O (zd [5] [7,7,2,2,2] 0 O) ?_;rintro _ _ ⟨M3,A52,c52,A53,c53,rfl,rfl⟩;refine .nm 12 O ?_;cases EL;exact .be O<|.hE (A52,c52,A53,c53,M3) O (zl [4,3,4,2] 3 O)
 rintro ⟨A50,c50,A51,c51,M2⟩;refine .cb h O (fun h=>?_) (fun h=>?_)
 ·refine .EQ [6] [] 7 O O ?_;cases h;exact .rv O O ⟨O,O⟩ (zl [] 2 O)
 refine .sk<|.pr [13,17,20,22] O<|.a 1 O<|.bd h fun r22 Xf h=>.call (iC Xf) Vs O O O (zl [3,1] 0 O) ?_
 intro v_ F_ FU
 rcases hq5:r22.2.1 with _ | q5
 ·replace FU:=YJ hq5 FU;replace h:=eZ hq5 h;obtain ⟨A54,c54,A55,c55,rfl,rfl⟩:=FU;refine .nm 9 O<|.b [13,17,18,19,20,22] O<|.seq<|.ab [13,17,19,20,22,212] O<|.EF O<|.EQ [6] [] 7 O O ?_;cases h;exact .rv O O ⟨O,O⟩ (zl [] 2 O)
 replace FU:=eU hq5 FU;replace h:=eN hq5 h;obtain ⟨g13,A56,c56,A57,c57,M4,rfl,rfl⟩:=FU;refine .nm 11 O<|.b [13,17,18,19,20,22] O<|.seq<|.ab [13,17,19,20,22,212] O<|.cb h O (fun h=>?_) (fun h=>?_)
 ·refine .EQ [6] [] 9 O O ?_;cases h;exact .rv O O ⟨O,O⟩ (zl [] 2 O)
 refine .sk<|.pr [13,17,19,20,22] O<|.a 1 O<|.bd h fun r23 Xg h=>.cr 12 [] [3,3] 0 (iB (BN:=g13) Xg) zVD O fun A58 c58=>.AQ (fun _ w=>(w.sl [2] 0 O).IZ)<|.bd h fun Jr Xh h=>.cr 13 [0] [] 0 (cQ Xh) zVi O fun A59 c59=>.bf [13,17,18,19,20,22,24] [0] 1 O O<|.a 1 O<|.AQ (fun _ w=>(w.sl [9] 0 O).IZ)<|.bd h fun r25 Xi h=>.cr 13 [0,10] [] 0 (iA Xi) zVO O fun A60 c60=>.bf [17,18,19,20,21,22,24,25] [0] 1 O O<|.a 2 O<|.AQ (fun _ w=>(w.sl [1] 0 O).CO)<|.AQ (fun _ w=>(w.sl [1] 0 O).CO)<|.bd h fun ja Xj h=>.cr 13 [1,0] [] 0 (iH Xj) zVT O fun A61 c61=>.b [17,18,19,20,21,22,24,25,26,27] O<|.a 1 O<|.AQ (fun _ w=>w.CO)<|.bd h fun r27 Xk h=>.cr 14 [0] [] 0 (zCp Xk) zYA O fun A62 c62=>.b [17,18,19,20,21,22,24,25,26,27,28,29] O<|.seq<|.seq<|.bd h fun o8 GH h=>.cu 10 [17,19,20,25,26,28, .s 261 (.bool o8)] [0,1,2,4,5,6,7,8] O O ?_ ?_
 ·refine .region<|.n 3 O<|.gs 237 GH O (fun GH=>?_) (fun GH=>?_)
  ·cases GH;exact .be O<|.hU O (zl [0,0,0,1,1,1,1,1] 2 O)
  refine .n 4 O<|.gs 241 GH O (fun GH=>?_) (fun GH=>?_)
  ·cases GH;exact .be O<|.hU O (zl [0,0,0,1,1,1,1,1] 2 O)
  refine .n 4 O<|.gs 245 GH O (fun GH=>?_) (fun GH=>?_)
  ·cases GH;exact .be O<|.hU O (zl [0,0,0,1,1,1,1,1] 2 O)
  refine .n 4 O<|.gs 249 GH O (fun GH=>?_) (fun GH=>?_)
  ·cases GH;exact .be O<|.hU O (zl [0,0,0,1,1,1,1,1] 2 O)
  refine .n 2 O<|.BR O O<|.bd GH fun r28 Xl GH=>.cv [3,9] (zJI Xl) zYN O<|.n 3 O<|.gs 255 GH O (fun GH=>?_) (fun GH=>?_)
  ·cases GH;exact .be O<|.hU O (zl [0,0,0,1,1,1,1,1] 2 O)
  cases GH;exact .be O<|.hU O (zl [0,0,0,1,1,1,1,1] 2 O)
 refine .cb h O (fun h=>?_) (fun h=>?_)
 ·refine .EQ [6] [] 10 O O ?_;cases h;exact .rv O O ⟨O,O⟩ (zl [] 2 O)
 refine .sk<|.pr [17,19,20,25,26,28] O<|.seq<|.ae O<|.bd h fun o9 hl3 h=>.EJ 10 (fun (WG:xG × zA) (e11:Option Addr × Nat × Option Addr × Nat × Option Addr × Nat)=>[17,19,25,26]) (fun WG e11=>[.res (zD xA 3 e11.2.2.2.2.1 e11.2.2.2.2.2 WG.2.AY), .res (zD AP 5 e11.2.2.1 e11.2.2.2.1 WG.2.bytes),1,2,3,4, .res (Box g9 112 (zJ WG.2 e11.2.2.1 e11.2.2.2.1 e11.2.2.2.2.1 e11.2.2.2.2.2))]) O O (fun WG=>o9= .inr WG) ?_ ?_
 ·refine .block<|.BH hl3 10 (fun (s3:xG × zA × Int) (e10:Option Addr × Nat × Option Addr × Nat × Option Addr × Nat)=>[17,19,20,25,26,28, .s 30 (.int .i64 s3.2.2)]) (fun s3 e10=>[.res (zD xA 3 e10.2.2.2.2.1 e10.2.2.2.2.2 s3.2.1.AY), .res (zD AP 5 e10.2.2.1 e10.2.2.2.1 s3.2.1.bytes), .res (zD xV 155 e10.1 e10.2.1 s3.1.records),0,1,2,3,4, .res (Box g9 112 (zJ s3.2.1 e10.2.2.1 e10.2.2.2.1 e10.2.2.2.2.1 e10.2.2.2.2.2)), .res (Box g12 124 (wR s3.1 g9 e10.1 e10.2.1))]) O O (A47,c47,A56,c56,A57,c57) (zb O) (zl [7,6,7] 0 O) ?_;rintro s3 ⟨A63,c63,A64,c64,A65,c65⟩ Ii QD hd3 h3;refine .seq<|.ab [17,19,20,25,26,28,30,265] O<|.cb h3 O (fun h3=>?_) (fun h3=>?_)
  ·refine .sk<|.pr [17,19,20,25,26,28,30] O<|.seq<|.block<|.a 3 O<|.bd h3 fun x8 JL h3=>.II JL 3 O fun g14 hA=>?_;subst hA;refine .EZ 0 JL O O (zm 3 O) O O<|.bd h3 fun YR Xm h3=>.call (gV (BN:=g12) (ES:=g9) Xm) zVH O O O (zl [9,2,7,1] 0 O) ?_;rintro _ _ ⟨A69,c69,A70,c70,A71,c71,rfl,rfl⟩;refine .nm 12 O<|.b [17,19,20,25,26,28,30,32] O<|.ab [17,19,20,25,26,28,30,278] O<|.cb h3 O (fun h3=>?_) (fun h3=>?_)
   ·refine .EQ [6] [] 10 O O ?_;cases h3;cases hd3 _ rfl
    have h:some _=some _:=h;cases h;exact .rv O O ⟨O,O⟩ (zl [] 2 O)
   refine .skip<|.BF<|.AB<|.pr [17,19,20,25,26,28,30] O<|.region ?_;cases h3;exact .be O<|.ag (A69,c69,A70,c70,A71,c71) QD O (zl [4,3,1,2,2,2,2,2,1] 0 O)
  refine .xq O ?_;cases h3;cases hd3 _ rfl
  exact .AB<|.DN (s3.1,s3.2.1) (A63,c63,A64,c64,A65,c65) O (zb O) (zl [0,0,2,2,2,2,2] 3 O)
 rintro WG ⟨A66,c66,A67,c67,A68,c68⟩ ho;subst ho;have h:=IV h;refine .a 1 O<|.bd h fun Wh Xn h=>.cr 10 [3] [] 0 (cE Xn) zVg O fun A72 c72=>.b [17,18,19,23,25,26] O<|.seq<|.seq<|.bd h fun jc SQ h=>.DZ 8 (fun (e12:Option Nat × Option Addr × Nat × Option Addr × Nat)=>[17,25,26, .s 291 (.bool jc.1)]) (fun e12=>[.res (zD xA 3 e12.2.2.2.1 e12.2.2.2.2 jc.2.2.AY), .res (zD AP 5 e12.2.1 e12.2.2.1 jc.2.2.bytes),3,4, .res (Box g9 112 (zJ jc.2.2 e12.2.1 e12.2.2.1 e12.2.2.2.1 e12.2.2.2.2))]) O O ?_ ?_
 ·refine .region<|.n 3 O<|.gs 286 SQ O (fun SQ=>?_) (fun SQ=>?_)
  ·cases SQ;exact .be O<|.hE (M4,A67,c67,A68,c68) O (zl [1,1,1,1] 3 O)
  refine .n 2 O<|.BR O O<|.AQ (fun _ w=>w.IZ)<|.bd SQ fun Js Xo SQ=>.call (lG (BN:=g13) (ES:=g9) Xo) zVo O O O (zd [5] [5,5,5,2,1] 0 O) ?_;rintro _ _ ⟨M6,A75,c75,A76,c76,rfl,rfl⟩;refine .nm 10 O ?_;cases SQ;exact .be O<|.hE (M6,A75,c75,A76,c76) O (zl [4,3,4,4,2] 3 O)
 rintro ⟨M5,A73,c73,A74,c74⟩;refine .cb h O (fun h=>?_) (fun h=>?_)
 ·refine .EQ [6] [] 5 O O ?_;cases h;exact .rv O O ⟨O,O⟩ (zl [] 2 O)
 refine .sk<|.pr [17,25,26] O<|.a 1 O<|.bd h fun r32 Xp h=>.call (iC Xp) Vs O O O (zl [4,1] 0 O) ?_
 intro v_ F_ FU
 rcases hq6:r32.2.1 with _ | q6
 ·replace FU:=YJ hq6 FU;replace h:=eZ hq6 h;obtain ⟨A77,c77,A78,c78,rfl,rfl⟩:=FU;refine .nm 7 O<|.b [17,18,19,25,26] O<|.a 1 O<|.bd h fun Wi Xq h=>.call (pT Xq) Bz O O O (fun _ w=>w) ?_
  intro v_ F_ FU
  rcases hq7:Wi.2.1 with _ | q7
  ·replace FU:=YJ hq7 FU;replace h:=eZ hq7 h;obtain ⟨A81,c81,A82,c82,rfl,rfl⟩:=FU;refine .nm 7 O<|.bf [18,19,20,21,25,26] [] 3 O O<|.seq<|.ab [19,20,25,26,315] O<|.EF O<|.EQ [6] [] 2 O O ?_;cases h;exact .rv O O ⟨O,O⟩ (zl [] 2 O)
  replace FU:=eU hq7 FU;replace h:=eN hq7 h;obtain ⟨g16,A83,c83,A84,c84,A85,c85,rfl,rfl⟩:=FU;refine .nm 9 O<|.b [18,19,20,21,25,26] O<|.seq<|.ab [19,20,25,26,315] O<|.EF O<|.EQ [6] [] 7 O O ?_;cases h;exact .rv O O ⟨O,O⟩ (zl [] 2 O)
 replace FU:=eU hq6 FU;replace h:=eN hq6 h;obtain ⟨g15,A79,c79,A80,c80,M7,rfl,rfl⟩:=FU;refine .nm 9 O<|.b [17,18,19,25,26] O<|.a 1 O<|.bd h fun Jt Xr h=>.call (pT Xr) Bz O O O (fun _ w=>w) ?_
 intro v_ F_ FU
 rcases hq8:Jt.2.1 with _ | q8
 ·replace FU:=YJ hq8 FU;replace h:=eZ hq8 h;obtain ⟨A86,c86,A87,c87,rfl,rfl⟩:=FU;refine .nm 9 O<|.b [18,19,20,21,25,26] O<|.seq<|.ab [19,20,25,26,315] O<|.EF O<|.EQ [6] [] 7 O O ?_;cases h;exact .rv O O ⟨O,O⟩ (zl [] 2 O)
 replace FU:=eU hq8 FU;replace h:=eN hq8 h;obtain ⟨g17,A88,c88,A89,c89,A90,c90,rfl,rfl⟩:=FU;refine .nm 11 O<|.b [18,19,20,21,25,26] O<|.seq<|.seq<|.bd h fun Wj QR h=>.cu 0 [19,20,25,26, .s 315 (.bool Wj)] [] O O ?_ ?_
 ·refine .region<|.n 11 O<|.gs 312 QR O (fun QR=>?_) (fun QR=>?_)
  ·cases QR;exact .be O<|.hU O zw
  cases QR;exact .be O<|.hU O zw
 refine .cb h O (fun h=>?_) (fun h=>?_)
 ·refine .EQ [6] [] 9 O O ?_;cases h;exact .rv O O ⟨O,O⟩ (zl [] 2 O)
 refine .sk<|.pr [19,20,25,26] O<|.a 1 O<|.bd h fun r35 Xt h=>.cr 12 [] [5,5] 0 (iB (BN:=g15) Xt) zVD O fun A91 c91=>.AQ (fun _ w=>(w.sl [2] 0 O).IZ)<|.bd h fun Wl Xu h=>.cr 13 [0] [] 0 (cQ Xu) zVi O fun A92 c92=>.bf [18,20,25,26,33] [0] 3 O O<|.a 2 O<|.AQ (fun _ w=>w.CO)<|.bd h fun Wn Xv h=>.cr 11 [0,7] [] 0 (iH Xv) zVT O fun A93 c93=>.bf [18,20,21,26,34] [0,1,1,1,1,1,1] 2 O O<|.a 1 O<|.bd h fun r38 Xw h=>.cr 10 [] [4,4] 0 (bW (BN:=g17) Xw) zYD O fun A94 c94=>.bf [18,21,26,34,35] [2,2] 5 O O<|.seq<|.ae O<|.bd h fun Wp hl4 h=>.EJ 1 (fun (YS:List zU) (e15:Option Addr × Nat)=>[18,21,26,34, .s 35 (.slice e15.1 YS.length e15.2)]) (fun YS e15=>[.res (zD uP 76 e15.1 e15.2 YS)]) O O (fun YS=>Wp= .inr YS) ?_ ?_
 ·refine .block<|.BH hl4 1 (fun (s4:Int × List zU) (e14:Option Addr × Nat)=>[18,21,26,34, .s 35 (.slice e14.1 s4.2.length e14.2), .s 36 (.int .i64 s4.1)]) (fun s4 e14=>[.res (zD uP 76 e14.1 e14.2 s4.2)]) O O (A94,c94) (zb O) (fun _ w=>w) ?_;rintro s4 ⟨A95,Jw⟩ Sj hm4 hd4 h4;refine .seq<|.seq<|.bd h4 fun Cb Ci h4=>.cu 0 [18,21,26,34,35,36, .s 339 (.bool Cb)] [] O O ?_ ?_
  ·refine .region<|.n 5 O<|.gs 334 Ci O (fun Ci=>?_) (fun Ci=>?_)
   ·cases Ci;exact .be O<|.hU O zw
   cases Ci;exact .be O<|.hU O zw
  refine .cb h4 O (fun h4=>?_) (fun h4=>?_)
  ·refine .sk<|.pr [18,21,26,34,35,36] O<|.seq<|.block<|.seq<|.bd h4 fun o16 SS h4=>.DZ 1 (fun (e17:Option Addr × Nat)=>[18,21,26,34, .s 35 (.slice e17.1 o16.1.length e17.2),36, .s 382 (.bool o16.2)]) (fun e17=>[.res (zD uP 76 e17.1 e17.2 o16.1)]) O O ?_ ?_
   ·refine .regionF mixed (by kernel_rfl)<|.n 2 O<|.bd SS fun x9 ND SS=>.II ND 0 O fun g18 hA=>?_;subst hA;refine .p O O<|.EZ 4 ND O O (.head _) O O<|.n 3 O<|.bd SS fun x10 JM SS=>.FB JM 2 O fun b3 JY=>.p O O<|.ld JY 1 0 O<|.n 2 O<|.gs 354 SS O (fun SS=>?_) (fun SS=>?_)
    ·cases SS;exact .beq O<|.hE ((some ⟨g18,0,none⟩),Jw) O (zl [] 1 O)
    refine .n 2 O<|.BR O O<|.II ND 1 O fun g19 hA=>?_;cases hA;refine .n 2 O<|.BR O O<|.EZ 8 ND O O EI O O<|.n 3 O<|.BR O O<|.FB JM 3 O fun b4 KN=>.n 1 O<|.BR O O<|.ld KN 0 0 O<|.n 3 O<|.gs 369 SS O (fun SS=>?_) (fun SS=>?_)
    ·cases SS;exact .beq O<|.hE ((some ⟨g18,0,none⟩),Jw) O (zl [] 2 O)
    refine .n 2 O<|.BR O O<|.II ND 2 O fun g20 hA=>?_;cases hA;refine .n 1 O<|.BR O O<|.EZ 6 ND O O (zm 2 O) O O<|.n 2 O<|.BR O O<|.FB JM 4 O fun b5 NU=>.n 1 O<|.BR O O<|.ld NU 0 0 O ?_;cases SS;exact .beq O<|.hE ((some ⟨g18,0,none⟩),Jw) O (zl [] 3 O)
   rintro ⟨A97,c97⟩;refine .cb h4 O (fun h4=>?_) (fun h4=>?_)
   ·refine .EQ [6] [] 3 O O ?_;cases h4;cases hd4 _ rfl
    have h:some _=some _:=h;cases h;exact .rv O O ⟨O,O⟩ (zl [] 2 O)
   refine .skip<|.BF<|.AB<|.pr [18,21,26,34,35,36] O<|.region ?_;cases h4;exact .be O<|.ag (A97,c97) hm4 O zw
  refine .xq O ?_;cases h4;cases hd4 _ rfl
  exact .AB<|.DN s4.2 (A95,Jw) O (zb O) zw
 rintro YS ⟨A96,c96⟩ ho;subst ho;have h:=IV h;refine .seq<|.bd h fun Wq KP h=>.cu 3 [.s 6 (.bool Wq)] [] O O ?_ ?_
 ·refine .region<|.n 3 O<|.gs 385 KP O (fun KP=>?_) (fun KP=>?_)
  ·refine .n 4 O<|.gs 389 KP O (fun KP=>?_) (fun KP=>?_)
   ·refine .n 5 O<|.gs 394 KP O (fun KP=>?_) (fun KP=>?_)
    ·cases KP;exact .be O<|.hU O (zl [] 3 O)
    cases KP;exact .be O<|.hU O (zl [] 3 O)
   cases KP;exact .be O<|.hU O (zl [] 3 O)
  cases KP;exact .be O<|.hU O (zl [] 3 O)
 cases h;exact .rv O O ⟨O,O⟩ (zl [] 2 O)
def DK (l:List Int):Prop:=∀ x∈l,0≤x∧x≤255
theorem DK.nil:DK []:=fun x h=>by cases h
theorem DK.app {l m:List Int} (h:DK l) (k:DK m):DK (l++m):=fun x hx=>by
 rcases List.mem_append.1 hx with hx | hx
 ·exact h x hx
 ·exact k x hx
theorem DK.cons {x:Int} {l:List Int} (h:0≤x∧x≤255) (k:DK l):DK (x::l):=fun y hy=>by
 rcases List.mem_cons.1 hy with rfl | hy
 ·exact h
 ·exact k y hy
theorem DK.sub {l m:List Int} (h:DK l) (k:∀ x∈m,x∈l):DK m:=fun x hx=>h x (k x hx)
theorem DK.take {l:List Int} (h:DK l) (n:Nat):DK (l.take n):=h.sub fun _ hx=>List.mem_of_mem_take hx
theorem DK.drop {l:List Int} (h:DK l) (n:Nat):DK (l.drop n):=h.sub fun _ hx=>List.mem_of_mem_drop hx
theorem DK.set {l:List Int} (h:DK l) (n:Nat) {v:Int} (hv:0≤v∧v≤255):DK (l.set n v):=fun x hx=>by
 rcases List.mem_or_eq_of_mem_set hx with hx | hx
 ·exact h x hx
 ·subst hx; exact hv
theorem DK.get {l:List Int} (h:DK l) (i:Nat):0≤l.getD i 0∧l.getD i 0≤255:=by
 rw [List.getD_eq_getElem?_getD]
 cases hi:l[i]? with
 | none=>exact ⟨Int.le_refl 0,by decide⟩
 | some x=>exact h x (List.mem_of_getElem? hi)
theorem DK.rep {n:Nat} {v:Int} (hv:0≤v∧v≤255):DK (List.replicate n v):=fun x hx=>by
 obtain ⟨_,rfl⟩:=List.mem_replicate.1 hx
 exact hv
theorem sW {x:Int} (h:0≤x∧x≤255):∃ n:Nat,n<256∧x=(n:Int):=⟨x.toNat,by omega,by omega⟩
theorem Xx {x y:Int} (hx:0≤x∧x≤255) (hy:0≤y∧y≤255):0≤vL .u8 x y∧vL .u8 x y≤255:=by
 obtain ⟨a,ha,rfl⟩:=sW hx
 obtain ⟨b,hb,rfl⟩:=sW hy
 rw [zOI ha hb]
 have:=Nat.and_lt_two_pow (n:=8) a (y:=b) hb
 omega
theorem Cj {x y:Int} (hx:0≤x∧x≤255) (hy:0≤y∧y≤255):0≤CZ .u8 x y∧CZ .u8 x y≤255:=by
 obtain ⟨a,ha,rfl⟩:=sW hx
 obtain ⟨b,hb,rfl⟩:=sW hy
 rw [pz ha hb]
 have:=Nat.or_lt_two_pow (n:=8) ha hb
 omega
theorem zTm {x:Int} (hx:0≤x∧x≤255):vL .u8 255 x=x:=by
 obtain ⟨a,ha,rfl⟩:=sW hx
 have:(255:Int)=((255:Nat):Int):=rfl
 rw [this,zOI (by decide) ha,Nat.and_comm]
 have e:a&&&255=a % 2 ^ 8:=Nat.and_two_pow_sub_one_eq_mod a 8
 rw [e]
 omega
theorem zYh {x:Int} (hx:0≤x∧x≤255):CZ .u8 x 255=255:=by
 obtain ⟨a,ha,rfl⟩:=sW hx
 have:(255:Int)=((255:Nat):Int):=rfl
 rw [this,pz ha (by decide)]
 have h:∀ a:Fin 256,a.val|||255=255:=by decide+kernel
 rw [h ⟨a,ha⟩]
theorem or_zero {x y:Int} (hx:0≤x∧x≤255) (hy:0≤y∧y≤255):CZ .u8 x y=0↔x=0∧y=0:=by
 obtain ⟨a,ha,rfl⟩:=sW hx
 obtain ⟨b,hb,rfl⟩:=sW hy
 rw [pz ha hb]
 have:=@Nat.or_eq_zero_iff a b
 omega
theorem Xy {x:Int} (hx:0≤x∧x≤255):CZ .u8 x 0=x:=by
 obtain ⟨a,ha,rfl⟩:=sW hx
 have:(0:Int)=((0:Nat):Int):=rfl
 rw [this,pz ha (by decide),Nat.or_zero]
structure FQ (d:zA):Prop where
 size:64≤d.size∧d.size≤1024
 AY:1≤d.AY.length∧d.AY.length≤16
 len:(d.bytes.length:Int)=d.AY.length*d.size
 DK:DK d.bytes
 BU:0≤d.BU∧d.BU≤255
 left:0≤d.left∧d.left≤9223372036854775807
theorem FQ.bound {d:zA} (h:FQ d):d.bytes.length≤16384:=by
 have h1:=h.len
 have h2:=h.size
 have h3:=h.AY
 have:(d.AY.length:Int)*d.size≤16*1024:=Int.mul_le_mul (by omega) (by omega) (by omega) (by omega)
 omega
def xK (d:zA):zA × Bool:=
 if 0<d.left then (⟨d.size,d.bytes,d.AY,wrap .i64 (d.steps+1),d.left - 1,d.BU,d.left - 1==0⟩,d.left - 1==0)
 else (⟨d.size,d.bytes,d.AY,wrap .i64 (d.steps+1),d.left,d.BU,d.down⟩,d.down)
theorem zOc {d:zA} (h:FQ d):vW d=some (xK d):=by
 unfold vW xK
 by_cases hl:0<d.left
 ·rw [zS (by simpa using hl),if_pos hl,zC (x:=d.left - 1) (by have:=h.left; omega) (by have:=h.left; omega)]
 ·rw [zM (by simpa using hl),if_neg hl]
theorem wZ (d:zA):(xK d).1.bytes=d.bytes:=by unfold xK; split <;> rfl
theorem kU (d:zA):(xK d).1.size=d.size:=by unfold xK; split <;> rfl
theorem fG (d:zA):(xK d).1.AY=d.AY:=by unfold xK; split <;> rfl
theorem oM (d:zA):(xK d).1.BU=d.BU:=by unfold xK; split <;> rfl
theorem Xz {d:zA} (h:d.down=false):(xK d).1.down=(xK d).2:=by unfold xK; split <;> rfl
theorem dU {d:zA} (h:FQ d):FQ (xK d).1:=by
 refine ⟨by rw [kU]; exact h.size,by rw [fG]; exact h.AY,by rw [wZ,fG,kU]; exact h.len,by rw [wZ]; exact h.DK,by rw [oM]; exact h.BU,?_⟩
 have:=h.left
 unfold xK
 split <;> simp only <;> omega
def PL (d:zA) (i:Nat) (v:Int):zA:=⟨d.size,d.bytes.set i v,d.AY,d.steps,d.left,d.BU,d.down⟩
theorem Jy {d:zA} (h:FQ d) (i:Nat) {v:Int} (hv:0≤v∧v≤255):FQ (PL d i v):=
 ⟨h.size,h.AY,by show ((d.bytes.set i v).length:Int)=_; rw [List.length_set]; exact h.len,h.DK.set i hv,h.BU,h.left⟩
def qY:zA→Nat→List Int→zA × Int
 | d,_, []=>(d,0)
 | d,i,x::b=>
  if (xK d).2 then (PL (xK d).1 i (vL .u8 (d.bytes.getD i 0) (CZ .u8 x d.BU)),10)
  else qY (PL (xK d).1 i (vL .u8 (d.bytes.getD i 0) x)) (i+1) b
theorem zKF:∀ (b:List Int) (d:zA) (i:Nat),FQ d→DK b→FQ (qY d i b).1∧(qY d i b).1.size=d.size∧(qY d i b).1.AY=d.AY∧(qY d i b).1.bytes.length=d.bytes.length∧(qY d i b).1.BU=d.BU
 | [],d,i,h,_=>⟨h,O,O,O,O⟩
 | x::b,d,i,h,hb=>by
  have hx:=hb x (by simp)
  unfold qY
  split
  ·exact ⟨Jy (dU h) i (Xx (h.DK.get i) (Cj hx h.BU)),kU d,fG d,by simp [PL,wZ],oM d⟩
  ·obtain ⟨h1,h2,h3,h4,h5⟩:=zKF b (PL (xK d).1 i (vL .u8 (d.bytes.getD i 0) x)) (i+1) (Jy (dU h) i (Xx (h.DK.get i) hx)) (fun y hy=>hb y (by simp [hy]))
   exact ⟨h1,h2.trans (kU d),h3.trans (fG d),by rw [h4]; simp [PL,wZ],h5.trans (oM d)⟩
theorem Cm {l:List Int} {i:Nat} (h:i<l.length):AU l (i:Int)=some (l.getD i 0):=by
 rw [JQ,List.getD_eq_getElem?_getD,List.getElem?_eq_getElem h]
 rfl
theorem cW {α:Type} {l:List α} {i:Nat} (h:i<l.length) (v:α):xJ l (i:Int) v=some (l.set i v):=by
 unfold xJ
 rw [if_pos ⟨by omega,by omega⟩]
 simp
theorem zIl {d:zA} (h:FQ d) (at_ n:Int) (ha1: -4611686018427387904≤at_):uV d at_ n=some (decide (0≤at_∧at_≤d.bytes.length∧0≤n∧n≤d.bytes.length - at_)):=by
 have hb:=h.bound
 unfold uV
 by_cases h1:at_≥0
 ·rw [zS (by simpa using h1)]
  by_cases h2:at_≤(d.bytes.length:Int)
  ·rw [zS (by simpa using h2)]
   by_cases h3:n≥0
   ·rw [zS (by simpa using h3),AA,zC (by omega) (by omega)]
    congr 1
    rw [decide_eq_decide]
    omega
   ·rw [zM (by simpa using h3),AA]
    congr 1
    symm
    rw [decide_eq_false_iff_not]
    omega
  ·rw [zM (by simpa using h2),AA]
   congr 1
   symm
   rw [decide_eq_false_iff_not]
   omega
 ·rw [zM (by simpa using h1),AA]
  congr 1
  symm
  rw [decide_eq_false_iff_not]
  omega
def Dc (DY:Int) (BO:List Int):zA × Int→Option (vM (zA × Int) ((zA × Int) ⊕ zA)):=
 (fun (s1:zA × Int)=>bif decide (s1.2<(BO.length:Int)) then (bnd (AU BO s1.2) fun x1=>bnd (vW s1.1) fun r2=>bif r2.2 then (bnd (AU r2.1.bytes (wrap .i64 (DY+s1.2))) fun x2=>bnd (AU r2.1.bytes (wrap .i64 (DY+s1.2))) fun x3=>bnd (AU r2.1.bytes (wrap .i64 (DY+s1.2))) fun x4=>bnd (xJ r2.1.bytes (wrap .i64 (DY+s1.2)) (vL .u8 x3 (CZ .u8 x1 r2.1.BU))) fun l1=>some (.done (.inl ((⟨r2.1.size,l1,r2.1.AY,r2.1.steps,r2.1.left,r2.1.BU,r2.1.down⟩:zA),10)))) else (bnd (AU r2.1.bytes (wrap .i64 (DY+s1.2))) fun x5=>bnd (xJ r2.1.bytes (wrap .i64 (DY+s1.2)) (vL .u8 x5 x1)) fun l2=>some (.next ((⟨r2.1.size,l2,r2.1.AY,r2.1.steps,r2.1.left,r2.1.BU,r2.1.down⟩:zA),wrap .i64 (s1.2+1))))) else (some (.done (.inr s1.1))))
def Jz (r:zA × Int):(zA × Int) ⊕ zA:=if r.2=0 then .inr r.1 else .inl r
theorem zIh (at_:Nat) (b:List Int) (hr:DK b):∀ (rest:List Int) (j:Nat) (d:zA),FQ d→b.drop j=rest→j+rest.length=b.length→at_+b.length≤d.bytes.length→
  zI (Dc (at_:Int) b) (d,(j:Int))=some (Jz (qY d (at_+j) rest))
 | [],j,d,hd,h1,h2,h3=>by
  refine zZ ?_
  unfold Dc
  simp only [List.length_nil] at h2
  rw [zM (by simp; omega)]
  rfl
 | x::rest,j,d,hd,h1,h2,h3=>by
  have hb:=hd.bound
  simp only [List.length_cons] at h2
  have hj:j<b.length:=by omega
  have hx:b[j]=x:=by
   have:=List.getElem_cons_drop (h:=hj)
   rw [h1] at this
   exact (List.cons.inj this).1
  have hrest:b.drop (j+1)=rest:=by
   have:=List.getElem_cons_drop (h:=hj)
   rw [h1] at this
   exact (List.cons.inj this).2
  have hxr:=hr x (by rw [←hx]; exact List.getElem_mem hj)
  have hi:at_+j<(xK d).1.bytes.length:=by rw [wZ]; omega
  have hw:wrap .i64 ((at_:Int)+(j:Int))=((at_+j:Nat):Int):=by rw [zC (by omega) (by omega)]; omega
  have hstep:Dc (at_:Int) b (d,(j:Int))=some (if (xK d).2 then .done (.inl (PL (xK d).1 (at_+j) (vL .u8 (d.bytes.getD (at_+j) 0) (CZ .u8 x d.BU)),10)) else .next (PL (xK d).1 (at_+j) (vL .u8 (d.bytes.getD (at_+j) 0) x),((j+1:Nat):Int))):=by
   unfold Dc
   simp only
   rw [zS (by simp; omega),vS hj,AA,hx,zOc hd,AA]
   cases hf:(xK d).2
   ·rw [cond_false,hw,Cm hi,AA,cW hi,AA,yA hj (by omega),wZ,if_neg (by decide)]
    simp only [PL,wZ]
   ·rw [cond_true,hw,Cm hi,AA,AA,AA,cW hi,AA,wZ,oM,if_pos O]
    simp only [PL,wZ,oM]
  cases hf:(xK d).2
  ·rw [hf] at hstep
   refine yQ hstep ?_
   have:=zIh at_ b hr rest (j+1) (PL (xK d).1 (at_+j) (vL .u8 (d.bytes.getD (at_+j) 0) x)) (Jy (dU hd) _ (Xx (hd.DK.get _) hxr)) hrest (by omega) (by simp [PL,wZ]; omega)
   rw [this]
   conv=>rhs; unfold qY
   rw [if_neg (by rw [hf]; decide)]
   rfl
  ·rw [hf] at hstep
   rw [zZ hstep]
   conv=>rhs; unfold qY
   rw [if_pos hf]
   simp only [Jz]
   rw [if_neg (by decide)]
theorem Ya:∀ (b:List Int) (d:zA) (i:Nat),(qY d i b).2=0∨(qY d i b).2=10
 | [],d,i=>.inl O
 | x::b,d,i=>by
  unfold qY
  split
  ·exact .inr O
  ·exact Ya b _ _
theorem zLq (r:zA × Int) (h:r.2=0∨r.2=10):(wN (Jz r) fun o2=>some (o2,0))=some r:=by
 unfold Jz
 rcases h with h | h
 ·rw [if_pos h,ER,←h]
 ·rw [if_neg (by rw [h]; decide),NE]
def zO (d:zA) (at_:Int) (b:List Int):zA × Int:=
 if d.down then (d,10) else if 0≤at_∧at_≤d.bytes.length∧0≤(b.length:Int)∧(b.length:Int)≤d.bytes.length - at_ then qY d at_.toNat b else (d,2)
theorem gU {d:zA} (h:FQ d) {b:List Int} (hb:DK b) (at_:Int) (ha1: -4611686018427387904≤at_):yJ d at_ b=some (zO d at_ b):=by
 unfold yJ zO
 cases hd:d.down
 ·rw [cond_false,zIl h at_ _ ha1,AA]
  by_cases hw:0≤at_∧at_≤d.bytes.length∧0≤(b.length:Int)∧(b.length:Int)≤d.bytes.length - at_
  ·rw [if_neg (by simp),if_pos hw,zM (by simp only [hw,decide_true]; rfl)]
   have:=zIh at_.toNat b hb b 0 d h O (by omega) (by omega)
   have e:((at_.toNat:Nat):Int)=at_:=by omega
   rw [e] at this
   unfold Dc at this
   exact zE this (zLq _ (Ya b d _))
  ·rw [if_neg (by simp),if_neg hw,zS (by rw [decide_eq_false hw]; rfl)]
 ·rw [cond_true,if_pos O]
theorem Yb {d:zA} (h:FQ d) {b:List Int} (hb:DK b) (at_:Int):FQ (zO d at_ b).1∧(zO d at_ b).1.size=d.size∧(zO d at_ b).1.AY=d.AY∧(zO d at_ b).1.bytes.length=d.bytes.length∧(zO d at_ b).1.BU=d.BU:=by
 unfold zO
 split
 ·exact ⟨h,O,O,O,O⟩
 ·split
  ·exact zKF b d _ h hb
  ·exact ⟨h,O,O,O,O⟩
theorem Ko {b:List Int} (h:b.length≤1000000):zR b=some b:=by
 unfold zR
 rw [sT (by simp; omega) (by simp; omega),AA]
 rfl
def Kq (d:zA) (at_ n:Int):List Int × Int:=
 if d.down then ([],10) else if 0≤at_∧at_≤d.bytes.length∧0≤n∧n≤d.bytes.length - at_ then ((d.bytes.drop at_.toNat).take n.toNat,0) else ([],2)
theorem Yc {d:zA} (h:FQ d) (at_ n:Int) (ha1: -4611686018427387904≤at_):xU d at_ n=some (d,Kq d at_ n):=by
 have hb:=h.bound
 unfold xU Kq
 cases hd:d.down
 ·rw [cond_false,zIl h at_ _ ha1,AA]
  by_cases hw:0≤at_∧at_≤d.bytes.length∧0≤n∧n≤d.bytes.length - at_
  ·rw [if_neg (by simp),if_pos hw,zM (by simp only [hw,decide_true]; rfl),zC (by omega) (by omega)]
   obtain ⟨a,rfl⟩:∃ a:Nat,at_=(a:Int):=⟨at_.toNat,by omega⟩
   obtain ⟨k,rfl⟩:∃ k:Nat,n=(k:Int):=⟨n.toNat,by omega⟩
   have h1:jP d.bytes.length (a:Int) ((a:Int)+(k:Int))=some k:=by
    unfold jP
    rw [if_pos ⟨by omega,by omega,by omega⟩]
    congr 1
    omega
   have h2:Go.Proofs.YtccooahdinmfmaaGreatDoor.sub d.bytes (((a:Int).toNat:Nat):Int) (((a:Int).toNat+k:Nat):Int)=some ((d.bytes.take (a+k)).drop a):=by
    unfold Go.Proofs.YtccooahdinmfmaaGreatDoor.sub
    rw [if_pos ⟨by omega,by omega,by omega⟩]
    congr 2
   rw [h1,AA,h2,AA,Ko (by simp; omega),AA]
   congr 3
   rw [List.take_drop,show (a:Int).toNat+(k:Int).toNat=a+k by omega]
   rfl
  ·rw [if_neg (by simp),if_neg hw,zS (by rw [decide_eq_false hw]; rfl)]
 ·rw [cond_true,if_pos O]
def MG (l:List Int) (lo n:Nat) (v:Int):List Int:=l.take lo++((l.drop lo).take n).map (fun x=>CZ .u8 x v)++l.drop (lo+n)
theorem zOT (l:List Int) (lo n:Nat) (v:Int) (h:lo+n≤l.length):(MG l lo n v).length=l.length:=by
 simp only [MG,List.length_append,List.length_take,List.length_map,List.length_drop]
 omega
theorem zUH {l:List Int} (h:DK l) (lo n:Nat) {v:Int} (hv:0≤v∧v≤255):DK (MG l lo n v):=by
 refine ((h.take lo).app fun x hx=>?_).app (h.drop _)
 obtain ⟨y,hy,rfl⟩:=List.mem_map.1 hx
 exact Cj (((h.drop lo).take n) y hy) hv
theorem zSN (l:List Int) (lo:Nat) (v:Int):MG l lo 0 v=l:=by simp [MG]
theorem zRe {l:List Int} {lo n:Nat} (v:Int) (h:lo+n<l.length):(MG l lo n v).set (lo+n) (CZ .u8 (l.getD (lo+n) 0) v)=MG l lo (n+1) v:=by
 unfold MG
 have h1:(l.take lo++((l.drop lo).take n).map (fun x=>CZ .u8 x v)).length=lo+n:=by
  simp only [List.length_append,List.length_take,List.length_map,List.length_drop]; omega
 have h2:l.drop (lo+n)=l[lo+n]::l.drop (lo+(n+1)):=(List.getElem_cons_drop (h:=h)).symm
 have h3:(l.drop lo).take (n+1)=(l.drop lo).take n++ [l[lo+n]]:=by
  rw [zV (by simp; omega)]
  simp
 rw [List.set_append_right _ _ (by omega),h1,Nat.sub_self,h2,List.set_cons_zero,h3,List.map_append,List.getD_eq_getElem?_getD,List.getElem?_eq_getElem h]
 simp
theorem zUj {l:List Int} {lo n:Nat} (v:Int) (h:lo+n<l.length):(MG l lo n v).getD (lo+n) 0=l.getD (lo+n) 0:=by
 unfold MG
 have h1:(l.take lo++((l.drop lo).take n).map (fun x=>CZ .u8 x v)).length=lo+n:=by
  simp only [List.length_append,List.length_take,List.length_map,List.length_drop]; omega
 rw [List.getD_eq_getElem?_getD,List.getD_eq_getElem?_getD,List.getElem?_append_right (by omega),h1,Nat.sub_self,List.getElem?_drop]
 simp
def KE (d:zA) (i:Nat):zA:=⟨d.size,d.bytes,d.AY.set i (wrap .i64 (d.AY.getD i 0+1)),d.steps,d.left,d.BU,d.down⟩
def XK (d:zA) (b:List Int):zA:=⟨d.size,b,d.AY,d.steps,d.left,d.BU,d.down⟩
def tU (d:zA) (s:Int):zA × Int:=
 if d.down then (d,10) else if s<0∨s≥d.AY.length then (d,2) else
  (XK (xK (KE d s.toNat)).1 (MG d.bytes (s.toNat*d.size.toNat) d.size.toNat (if (xK (KE d s.toNat)).2 then d.BU else 255)),if (xK (KE d s.toNat)).2 then 10 else 0)
theorem Yd {d:zA} (h:FQ d) (i:Nat):FQ (KE d i):=
 ⟨h.size,by show 1≤(d.AY.set _ _).length∧(d.AY.set _ _).length≤16; rw [List.length_set]; exact h.AY,by show (d.bytes.length:Int)=((d.AY.set _ _).length:Int)*_; rw [List.length_set]; exact h.len,h.DK,h.BU,h.left⟩
theorem zWD {d:zA} (h:FQ d) {b:List Int} (hl:b.length=d.bytes.length) (hr:DK b):FQ (XK d b):=
 ⟨h.size,h.AY,by show (b.length:Int)=_; rw [hl]; exact h.len,hr,h.BU,h.left⟩
theorem tP {d:zA} (h:FQ d) {k:Nat} (hk:k<d.AY.length):k*d.size.toNat+d.size.toNat≤d.bytes.length:=by
 have h1:=h.len
 have h2:=h.size
 obtain ⟨z,hz⟩:∃ z:Nat,d.size=(z:Int):=⟨d.size.toNat,by omega⟩
 rw [hz] at h1 ⊢
 have h3:d.bytes.length=d.AY.length*z:=by exact_mod_cast h1
 have h4:(k+1)*z≤d.AY.length*z:=Nat.mul_le_mul_right _ (by omega)
 rw [Nat.add_mul,Nat.one_mul] at h4
 show k*z+z≤_
 omega
theorem zRF {d:zA} (h:FQ d) (s:Int) (hs:s≤4611686018427387904):tD d s=some (tU d s):=by
 have hb:=h.bound
 unfold tD tU
 cases hd:d.down
 ·rw [cond_false,if_neg (by simp)]
  by_cases hs0:s<0
  ·rw [zS (by simpa using hs0),AA,cond_true,if_pos (.inl hs0)]
  ·rw [zM (by simpa using hs0),AA]
   by_cases hs1:s≥d.AY.length
   ·rw [zS (by simpa using hs1),if_pos (.inr hs1)]
   ·rw [zM (by simpa using hs1),if_neg (by omega)]
    obtain ⟨k,rfl⟩:∃ k:Nat,s=(k:Int):=⟨s.toNat,by omega⟩
    have hk:k<d.AY.length:=by omega
    have aKN:=h.AY
    have hok:=dU (Yd h k)
    have hst:vW (⟨d.size,d.bytes,d.AY.set k (wrap .i64 (d.AY.getD k 0+1)),d.steps,d.left,d.BU,false⟩:zA)=some (xK (KE d k)):=by rw [←zOc (Yd h k)]; simp only [KE,hd]
    rw [Cm hk,AA,cW hk,AA,hst,AA]
    have hz:=h.size
    obtain ⟨z,hzz⟩:∃ z:Nat,d.size=(z:Int):=⟨d.size.toNat,by omega⟩
    have hsz:(xK (KE d k)).1.size=(z:Int):=(kU _).trans hzz
    have hby:(xK (KE d k)).1.bytes=d.bytes:=wZ _
    have hse:=tP h hk
    rw [hzz] at hse
    have hkz:k*z≤16384:=by
     have:((z:Int)).toNat=z:=rfl
     rw [this] at hse
     omega
    have aKO:k*z+z≤d.bytes.length:=hse
    have e1:wrap .i64 ((k:Int)*(z:Int))=((k*z:Nat):Int):=by
     have:(k:Int)*(z:Int)=((k*z:Nat):Int):=by simp
     rw [this,xO (by omega)]
    have e2:wrap .i64 (wrap .i64 ((k:Int)+1)*(z:Int))=((k*z+z:Nat):Int):=by
     rw [zC (x:=(k:Int)+1) (by omega) (by omega)]
     have:((k:Int)+1)*(z:Int)=((k*z+z:Nat):Int):=by simp [Int.add_mul]
     rw [this,xO (by omega)]
    simp only [hsz,hby,e1,e2]
    have hpm:jP d.bytes.length ((k*z:Nat):Int) ((k*z+z:Nat):Int)=some z:=by
     unfold jP
     rw [if_pos ⟨by omega,by omega,by omega⟩]
     congr 1
     omega
    have ho:(bif (xK (KE d k)).2 then some (xK (KE d k)).1.BU else some 255)=some (if (xK (KE d k)).2 then d.BU else 255):=by
     rw [oM]
     cases (xK (KE d k)).2 <;> rfl
    rw [ho,AA,hpm,AA]
    generalize hv:(if (xK (KE d k)).2=true then d.BU else 255)=v
    have hvr:0≤v∧v≤255:=by rw [←hv]; split; exact h.BU; decide
    have e3:(((k*z:Nat):Int)).toNat=k*z:=rfl
    rw [e3]
    refine vE (fun j=>(XK (xK (KE d k)).1 (MG d.bytes (k*z) j v),(j:Int))) z (XK (xK (KE d k)).1 (MG d.bytes (k*z) z v)) ?_ (fun j hj=>?_) ?_ ?_
    ·rw [zSN,←hby]; rfl
    ·have hlt:k*z+j<d.bytes.length:=by omega
     have hlt2:k*z+j<(MG d.bytes (k*z) j v).length:=by rw [zOT _ _ _ _ (by omega)]; exact hlt
     have hel:XC (MG d.bytes (k*z) j v) (k*z) z (j:Int)=some (d.bytes.getD (k*z+j) 0):=by
      unfold XC
      rw [if_pos ⟨by omega,by omega⟩]
      have:((k*z:Nat):Int)+(j:Int)=((k*z+j:Nat):Int):=by omega
      rw [this,Cm hlt2,zUj v hlt]
     have Ye:xJ (MG d.bytes (k*z) j v) (((k*z:Nat):Int)+(j:Int)) (CZ .u8 (d.bytes.getD (k*z+j) 0) v)=some (MG d.bytes (k*z) (j+1) v):=by
      have:((k*z:Nat):Int)+(j:Int)=((k*z+j:Nat):Int):=by omega
      rw [this,cW hlt2,zRe v hlt]
     simp only [XK]
     rw [zS (by simp; omega),hel,AA,AA,Ye,AA,yA hj (by omega)]
    ·simp only
     rw [zM (by simp)]
    ·have e4:((z:Int)).toNat=z:=rfl
     have e5:((k:Int)).toNat=k:=rfl
     rw [hzz]
     simp only [e4,e5]
     cases hf:(xK (KE d k)).2
     ·rw [hf] at hv
      rw [cond_false,←hv]
      rfl
     ·rw [hf] at hv
      rw [cond_true,←hv]
      rfl
 ·rw [cond_true,if_pos O]
theorem zIR {d:zA} (h:FQ d) (s:Int):FQ (tU d s).1∧(tU d s).1.size=d.size∧(tU d s).1.AY.length=d.AY.length∧(tU d s).1.bytes.length=d.bytes.length∧(tU d s).1.BU=d.BU:=by
 unfold tU
 split
 ·exact ⟨h,O,O,O,O⟩
 ·split
  ·exact ⟨h,O,O,O,O⟩
  ·rename_i hs
   have hk:s.toNat<d.AY.length:=by omega
   have hse:=tP h hk
   have hl:=zOT d.bytes (s.toNat*d.size.toNat) d.size.toNat (if (xK (KE d s.toNat)).2 then d.BU else 255) hse
   have hvr:0≤(if (xK (KE d s.toNat)).2 then d.BU else 255)∧(if (xK (KE d s.toNat)).2 then d.BU else 255)≤255:=by split; exact h.BU; decide
   refine ⟨zWD (dU (Yd h _)) ?_ (zUH h.DK _ _ hvr),kU _,?_,hl,oM _⟩
   ·rw [wZ]; exact hl
   ·show (xK (KE d s.toNat)).1.AY.length=_
    rw [fG]
    simp [KE]
def XL (d:zA):zA:=⟨d.size,d.bytes,d.AY,d.steps,0,d.BU,false⟩
theorem zTv {d:zA} (h:FQ d):FQ (XL d):=⟨h.size,h.AY,h.len,h.DK,h.BU,by show 0≤(0:Int)∧(0:Int)≤_; decide⟩
def SV:List Int→Option (zB × Nat)
 | k::n::r=>if n=128 then some (⟨k, [],true⟩,2) else if n>28∨(r.length:Int)<n then none else some (⟨k,r.take n.toNat,false⟩,2+n.toNat)
 | _=>none
theorem kR (k n:Int) (r:List Int):SV (k::n::r)=if n=128 then some (⟨k, [],true⟩,2) else if n>28∨(r.length:Int)<n then none else some (⟨k,r.take n.toNat,false⟩,2+n.toNat):=rfl
theorem Kr {b:List Int} {x:zB} {n:Nat} (hr:DK b) (h:SV b=some (x,n)):2≤n∧n≤b.length:=by
 match b,h with
 | k::c::r,h=>
  rw [kR] at h
  split at h
  ·injection h with h; injection h with _ h; subst h; simp
  ·split at h
   ·cases h
   ·rename_i h1
    have:=hr c (by simp)
    injection h with h; injection h with _ h; subst h
    simp only [List.length_cons]
    omega
theorem aM {α:Type} {l:List α} {a b:Nat} (h1:a≤b) (h2:b≤l.length):Go.Proofs.YtccooahdinmfmaaGreatDoor.sub l (a:Int) (b:Int)=some ((l.drop a).take (b - a)):=by
 unfold Go.Proofs.YtccooahdinmfmaaGreatDoor.sub
 rw [if_pos ⟨by omega,by omega,by omega⟩]
 congr 1
 have e1:((a:Int)).toNat=a:=rfl
 have e2:((b:Int)).toNat=b:=rfl
 rw [e1,e2,List.drop_take]
def zRH (o:Option (zB × Nat)):zB × Int × Bool:=match o with | some (x,n)=>(x,(n:Int),true) | none=>(⟨0, [],false⟩,0,false)
theorem zQi {b:List Int} (hr:DK b) (hl:b.length≤16384):rO b=some (zRH (SV b)):=by
 unfold rO
 match b,hr,hl with
 | [],_,_=>rfl
 | [k],_,_=>rfl
 | k::c::r,hr,hl=>
  have hc:=hr c (by simp)
  simp only [List.length_cons] at hl
  have e0:AU (k::c::r) 0=some k:=rfl
  have e1:AU (k::c::r) 1=some c:=rfl
  rw [zM (by simp only [List.length_cons,decide_eq_false_iff_not]; omega),e1,AA,e0,kR]
  by_cases h1:c=128
  ·rw [zS (by simpa using h1),AA,if_pos h1]
   rfl
  ·rw [zM (by simpa using h1),if_neg h1]
   obtain ⟨n,hn,rfl⟩:=sW hc
   have hw:wrap .i64 (2+wrap .i64 (n:Int))=((2+n:Nat):Int):=by rw [xO (by omega),zC (by omega) (by omega)]; omega
   rw [hw]
   by_cases h2:(n:Int)>28
   ·rw [zS (by simpa using h2),AA,cond_true,if_pos (.inl h2)]
    rfl
   ·rw [zM (by simpa using h2),AA]
    by_cases h3:(r.length:Int)<(n:Int)
    ·rw [zS (by simp only [List.length_cons,decide_eq_true_eq]; omega),if_pos (.inr h3)]
     rfl
    ·rw [zM (by simp only [List.length_cons,decide_eq_false_iff_not]; omega),AA,if_neg (by omega)]
     have hs:Go.Proofs.YtccooahdinmfmaaGreatDoor.sub (k::(n:Int)::r) 2 ((2+n:Nat):Int)=some (r.take n):=by
      have:=aM (l:=k::(n:Int)::r) (a:=2) (b:=2+n) (by omega) (by simp; omega)
      rw [Nat.add_sub_cancel_left] at this
      exact this
     rw [hs,AA,Ko (by simp; omega),AA]
     rfl
def lJ:Nat→List Int→Option (List zB × Nat)
 | 0,_=>some ([],0)
 | c+1,b=>match SV b with
  | none=>none
  | some (x,n)=>match lJ c (b.drop n) with
   | none=>none
   | some (l,m)=>some (x::l,n+m)
theorem Yf:∀ (c:Nat) {b:List Int} {l:List zB} {n:Nat},DK b→lJ c b=some (l,n)→n≤b.length∧l.length=c
 | 0,b,l,n,_,h=>by injection h with h; injection h with h1 h2; subst h1; subst h2; simp
 | c+1,b,l,n,hr,h=>by
  unfold lJ at h
  split at h
  ·cases h
  ·rename_i x k hk
   split at h
   ·cases h
   ·rename_i l' m hm
    injection h with h; injection h with h1 h2
    subst h1; subst h2
    have h3:=Kr hr hk
    have h4:=Yf c (hr.drop k) hm
    simp only [List.length_drop,List.length_cons] at*
    omega
def rW:List Int→Option (List zB × Nat)
 | []=>none
 | c::r=>if c<1∨c>32 then none else match lJ c.toNat r with
  | none=>none
  | some (l,n)=>if r[n]? =some 0 then some (l,n+2) else none
theorem pH (c:Int) (r:List Int):rW (c::r)=if c<1∨c>32 then none else match lJ c.toNat r with
  | none=>none
  | some (l,n)=>if r[n]? =some 0 then some (l,n+2) else none:=rfl
theorem oS {b:List Int} {l:List zB} {n:Nat} (hr:DK b) (h:rW b=some (l,n)):2≤n∧n≤b.length:=by
 match b,h with
 | c::r,h=>
  rw [pH] at h
  split at h
  ·cases h
  ·split at h
   ·cases h
   ·rename_i l' m hm
    split at h
    ·rename_i h0
     injection h with h; injection h with _ h; subst h
     have:=(List.getElem?_eq_some_iff.1 h0).1
     simp only [List.length_cons]
     omega
    ·cases h
def Yg (o:Option (List zB × Nat)):List zB × Int × Bool:=match o with | some (l,n)=>(l,(n:Int),true) | none=>([],0,false)
def dT (BA:List Int) (x2:Int):List zB × Int × Int→Option (vM (List zB × Int × Int) (((List zB) × Int × Bool) ⊕ (List zB × Int))):=
 (fun (s1:List zB × Int × Int)=>bif decide (s1.2.2<x2) then (bnd (Go.Proofs.YtccooahdinmfmaaGreatDoor.sub BA s1.2.1 (BA.length:Int)) fun l1=>bnd (rO l1) fun r1=>bif !r1.2.2 then (some (.done (.inl ([],0,false)))) else (bnd (app 40 s1.1 [r1.1]) fun l2=>some (.next (l2,wrap .i64 (s1.2.1+r1.2.1),wrap .u8 (s1.2.2+1))))) else (some (.done (.inr (s1.1,s1.2.1)))))
theorem zFX {b:List Int} (hr:DK b) (hl:b.length≤16384) (c:Nat) (hc:c≤32):∀ (k i at_:Nat) (acc:List zB),i+k=c→at_≤b.length→acc.length≤i→
  zI (dT b (c:Int)) (acc,(at_:Int),(i:Int))=some (match lJ k (b.drop at_) with | none=>.inl ([],0,false) | some (l,n)=>.inr (acc++l,((at_+n:Nat):Int)))
 | 0,i,at_,acc,h,_,_=>by
  refine zZ ?_
  unfold dT
  simp only
  rw [zM (by simp; omega)]
  simp [lJ]
 | k+1,i,at_,acc,h,hat,hacc=>by
  have hsub:Go.Proofs.YtccooahdinmfmaaGreatDoor.sub b (at_:Int) (b.length:Int)=some (b.drop at_):=by
   rw [aM hat (Nat.le_refl _)]
   congr 1
   rw [List.take_of_length_le (by simp)]
  have hstep:dT b (c:Int) (acc,(at_:Int),(i:Int))=some (match SV (b.drop at_) with | none=>.done (.inl ([],0,false)) | some (x,n)=>.next (acc++ [x],((at_+n:Nat):Int),((i+1:Nat):Int))):=by
   unfold dT
   simp only
   rw [zS (by simp; omega),hsub,AA,zQi (hr.drop _) (by simp; omega),AA]
   cases hcg:SV (b.drop at_) with
   | none=>rfl
   | some p=>
    obtain ⟨x,n⟩:=p
    have hn:=Kr (hr.drop _) hcg
    simp only [List.length_drop] at hn
    simp only [zRH,Bool.not_true,cond_false]
    rw [sT (by simp; omega) (by simp; omega),AA,zC (by omega) (by omega),oC (by omega) (by omega)]
    rfl
  unfold lJ
  cases hcg:SV (b.drop at_) with
  | none=>rw [hcg] at hstep; exact zZ hstep
  | some p=>
   obtain ⟨x,n⟩:=p
   have hn:=Kr (hr.drop _) hcg
   simp only [List.length_drop] at hn
   rw [hcg] at hstep
   refine yQ hstep ?_
   rw [zFX hr hl c hc k (i+1) (at_+n) (acc++ [x]) (by omega) (by omega) (by simp; omega)]
   simp only [List.drop_drop]
   cases hcs:lJ k (b.drop (at_+n)) with
   | none=>rfl
   | some q=>
    obtain ⟨l,m⟩:=q
    simp only [List.append_assoc,List.singleton_append]
    rw [Nat.add_assoc]
theorem zTa {b:List Int} (hr:DK b) (hl:b.length≤16384):qR b=some (Yg (rW b)):=by
  unfold qR
  match b,hr,hl with
  | [],_,_=>rfl
  | c::r,hr,hl=>
    have hc:=hr c (by simp)
    have e0:AU (c::r) 0=some c:=rfl
    have hr':DK r:=fun x hx=>hr x (by simp [hx])
    simp only [List.length_cons] at hl
    rw [zM (by simp only [List.length_cons,beq_eq_false_iff_ne,ne_eq]; omega),e0,AA,pH]
    by_cases h1:c<1
    · rw [zS (by simpa using h1), AA, cond_true, if_pos (.inl h1)]
      rfl
    · rw [zM (by simpa using h1), AA]
      by_cases h2:c>32
      · rw [zS (by simpa using h2), if_pos (.inr h2)]
        rfl
      · rw [zM (by simpa using h2), AA, if_neg (by omega)]
        obtain ⟨n,hn,rfl⟩:=sW hc
        have hlp:=zFX hr (by simp; omega) n (by omega) n 0 1 [] (by omega) (by simp) (by simp)
        unfold dT at hlp
        refine zE hlp ?_
        have e2:((n:Int)).toNat=n:=rfl
        rw [List.drop_succ_cons,List.drop_zero,e2]
        cases hcs:lJ n r with
        | none=>rfl
        | some q=>
          obtain ⟨l,m⟩:=q
          have hm:=(Yf n hr' hcs).1
          simp only [List.nil_append,ER,List.length_cons]
          by_cases h3:1+m=r.length+1
          · rw [zS (by simp; omega), AA, cond_true, if_neg (by rw [List.getElem?_eq_none (by omega)]; simp)]
            rfl
          · have hmr : m < r.length := by omega
            have e3:AU ((n:Int)::r) ((1+m:Nat):Int)=some r[m]:=by
              rw [JQ,Nat.add_comm,List.getElem?_cons_succ,List.getElem?_eq_getElem hmr]
            rw [zM (by simp; omega),e3,AA,AA,List.getElem?_eq_getElem hmr]
            by_cases h4:r[m]=0
            · rw [zM (by simpa using h4), if_pos (by rw [h4]), zC (by omega) (by omega)]
              simp only [Yg]
              congr 3
              omega
            · rw [zS (by simpa using h4), if_neg (by simpa using h4)]
              rfl
def eQ (x:zB):List Int:=if x.Delete then [x.Key,128] else x.Key::wrap .u8 (x.Value.length:Int)::x.Value
def wI (l:List zB):List Int:=wrap .u8 (l.length:Int)::l.flatMap eQ++ [0]
theorem zLy (x:zB):2≤(eQ x).length∧(eQ x).length≤2+x.Value.length:=by
 unfold eQ
 split
 ·simp
 ·simp only [List.length_cons]
  omega
theorem zUl {l:List zB} (h:∀ x∈l,x.Value.length≤1000):(l.flatMap eQ).length≤l.length*1002:=by
 induction l with
 | nil=>simp
 | cons x r ih=>
  have h1:=(zLy x).2
  have h2:=h x (by simp)
  have h3:=ih fun y hy=>h y (by simp [hy])
  simp only [List.flatMap_cons,List.length_append,List.length_cons]
  omega
theorem zIV {l:List zB} (hl:l.length≤1000) (hv:∀ x∈l,x.Value.length≤1000):rQ l=some (wI l):=by
 unfold rQ
 have hb:∀ i,i≤l.length→(wrap .u8 (l.length:Int)::(l.take i).flatMap eQ).length≤1+i*1002:=fun i hi=>by
  have:=zUl (l:=l.take i) fun x hx=>hv x (List.mem_of_mem_take hx)
  simp only [List.length_take,List.length_cons] at*
  rw [Nat.min_eq_left hi] at this
  omega
 refine vE (fun i=>(wrap .u8 (l.length:Int)::(l.take i).flatMap eQ,(i:Int))) l.length (wrap .u8 (l.length:Int)::l.flatMap eQ) O (fun i hi=>?_) ?_ ?_
 ·have h1:=hb i (by omega)
  have h2:=hv l[i] (List.getElem_mem hi)
  have h3:i*1002≤1000*1002:=Nat.mul_le_mul_right _ (by omega)
  simp only
  rw [zS (by simp; omega),vS hi,AA,zV hi,List.flatMap_append]
  simp only [List.flatMap_cons,List.flatMap_nil,List.append_nil]
  have hE:∀ (z:List Int),(wrap .u8 (l.length:Int)::((l.take i).flatMap eQ++z))=(wrap .u8 (l.length:Int)::(l.take i).flatMap eQ)++z:=fun z=>O
  rw [hE]
  generalize hpre:wrap .u8 (l.length:Int)::(l.take i).flatMap eQ=pre at h1 ⊢
  unfold eQ
  cases hd:l[i].Delete
  ·simp only [cond_false]
   rw [sT (by simp; omega) (by simp; omega),AA,sT (by simp; omega) (by simp; omega),AA,yA hi (by omega)]
   simp
  ·simp only [cond_true]
   rw [sT (by simp; omega) (by simp; omega),AA,yA hi (by omega)]
   simp
 ·simp only
  rw [zM (by simp),List.take_length]
 ·have h1:=hb l.length (Nat.le_refl _)
  rw [List.take_length] at h1
  have h3:l.length*1002≤1000*1002:=Nat.mul_le_mul_right _ hl
  rw [sT (by simp only [List.length_cons,List.length_nil] at*; omega) (by simp only [List.length_cons,List.length_nil] at*; omega),AA]
  rfl
def sV (b:List Int):Bool:=b.all fun x=>x==255
theorem Kt {b:List Int} (hl:b.length≤16384):sN b=some (sV b):=by
 unfold sN vT uJ
 have hf:∀ i (h:i<b.length),(fun i:Nat=>if (b.getD i 255 != 255) then some (.inl (i:Int):Int ⊕ Unit) else none) i=if (fun x:Int=>x != 255) b[i] then some ((fun (i:Nat) (_:Int)=>(.inl (i:Int):Int ⊕ Unit)) i b[i]) else none:=fun i h=>by
  simp only [List.getD_eq_getElem?_getD,List.getElem?_eq_getElem h,Option.getD_some]
 have hL:=cO (m:=fun (s1:Int)=>bif decide (s1<(b.length:Int)) then (bnd (AU b s1) fun x1=>bnd (sU x1) fun r1=>bif r1 then (some (.done (.inl s1:Int ⊕ Unit))) else (some (.next (wrap .i64 (s1+1))))) else (some (.done (.inr ())))) (fun i=>(i:Int)) b.length (fun i=>if (b.getD i 255 != 255) then some (.inl (i:Int):Int ⊕ Unit) else none) (t:=.inr ()) (fun i hi=>?_) ?_
 ·have h0:((0:Nat):Int)=0:=rfl
  rw [h0] at hL
  rw [hL,AA]
  rcases Td b (fun x=>x != 255) (fun i _=>(.inl (i:Int):Int ⊕ Unit)) _ hf with ⟨i,hi,h1,_,h3⟩ | ⟨_,h2,h3⟩
  ·rw [h3]
   simp only [Option.getD_some,NE,AA]
   congr 1
   have:sV b=false:=by
    unfold sV
    rw [List.all_eq_false]
    exact ⟨b[i],List.getElem_mem hi,by simpa using h1⟩
   rw [this]
   simp
  ·rw [h3]
   simp only [Option.getD_none,ER,AA]
   congr 1
   have:sV b=true:=by
    unfold sV
    rw [List.all_eq_true]
    intro x hx
    simpa using h2 x hx
   rw [this]
   rfl
 ·rw [zS (by simp; omega),vS hi,AA]
  unfold sU
  rw [AA,List.getD_eq_getElem?_getD,List.getElem?_eq_getElem hi]
  simp only [Option.getD_some]
  by_cases hb:b[i]=255
  ·rw [zM (by simpa using hb),yA hi (by omega),if_neg (by simpa using hb)]
  ·rw [zS (by simpa using hb),if_pos (by simpa using hb)]
 ·rw [zM (by simp)]
theorem gZ {b:List Int}:sV b=true↔b=List.replicate b.length 255:=by
 unfold sV
 rw [List.all_eq_true,List.eq_replicate_iff]
 simp
abbrev pS:=List (Int × List Int)
def lA (m:pS) (k:Int):Option (List Int):=uA (xE .u8).eq m k
def WH (m:pS) (k:Int) (v:List Int):pS:=pG (xE .u8).eq m k v
def XM (m:pS) (k:Int):pS:=SB (xE .u8).eq m k
def qC (m:pS):List Int:=m.map (·.1)
theorem jS (a b:Int):(xE .u8).eq a b=true↔a=b:=by
 show (a==b)=true↔_
 simp
theorem zPs (m:pS) (k k':Int) (v:List Int):lA (WH m k v) k'=if k'=k then some v else lA m k':=Sv jS m k k' v
theorem aI (x:Int × List Int) (r:pS) (k:Int):lA (x::r) k=if k=x.1 then some x.2 else lA r k:=by
 show (bif (xE .u8).eq k x.1 then some x.2 else uA (xE .u8).eq r k)=_
 by_cases h:k=x.1
 ·rw [(jS k x.1).2 h,if_pos h]; rfl
 ·have:(xE .u8).eq k x.1=false:=by cases hc:(xE .u8).eq k x.1; rfl; exact absurd ((jS k x.1).1 hc) h
  rw [this,if_neg h]; rfl
theorem zHA (x:Int × List Int) (r:pS) (k:Int) (v:List Int):WH (x::r) k v=if k=x.1 then (k,v)::r else x::WH r k v:=by
 show (bif (xE .u8).eq k x.1 then (k,v)::r else x::pG (xE .u8).eq r k v)=_
 by_cases h:k=x.1
 ·rw [(jS k x.1).2 h,if_pos h]; rfl
 ·have:(xE .u8).eq k x.1=false:=by cases hc:(xE .u8).eq k x.1; rfl; exact absurd ((jS k x.1).1 hc) h
  rw [this,if_neg h]; rfl
theorem Yh (x:Int × List Int) (r:pS) (k:Int):XM (x::r) k=if k=x.1 then r else x::XM r k:=by
 show (bif (xE .u8).eq k x.1 then r else x::SB (xE .u8).eq r k)=_
 by_cases h:k=x.1
 ·rw [(jS k x.1).2 h,if_pos h]; rfl
 ·have:(xE .u8).eq k x.1=false:=by cases hc:(xE .u8).eq k x.1; rfl; exact absurd ((jS k x.1).1 hc) h
  rw [this,if_neg h]; rfl
theorem kO (x:Int × List Int) (r:pS):qC (x::r)=x.1::qC r:=rfl
theorem Yi {m:pS} {k:Int}:lA m k=none↔k∉qC m:=by
 induction m with
 | nil=>simp [lA,uA,qC]
 | cons x r ih=>
  rw [aI,kO,List.mem_cons]
  by_cases h:k=x.1
  ·simp [h]
  ·rw [if_neg h,ih]
   simp [h]
theorem zHL {m:pS} {k x:Int} (h:x∈qC (XM m k)):x∈qC m:=by
 induction m with
 | nil=>exact h
 | cons y r ih=>
  rw [kO,List.mem_cons]
  rw [Yh] at h
  split at h
  ·exact .inr h
  ·rw [kO,List.mem_cons] at h
   rcases h with h | h
   ·exact .inl h
   ·exact .inr (ih h)
theorem zHH {m:pS} {k x:Int} {v:List Int} (h:x∈qC (WH m k v)):x=k∨x∈qC m:=by
 induction m with
 | nil=>left; simpa [WH,pG,qC] using h
 | cons y r ih=>
  rw [kO,List.mem_cons]
  rw [zHA] at h
  split at h
  ·rw [kO,List.mem_cons] at h
   rcases h with h | h
   ·exact .inl h
   ·exact .inr (.inr h)
  ·rw [kO,List.mem_cons] at h
   rcases h with h | h
   ·exact .inr (.inl h)
   ·rcases ih h with h | h
    ·exact .inl h
    ·exact .inr (.inr h)
def MJ (m:pS):Prop:=(qC m).Nodup
theorem MJ.set {m:pS} (h:MJ m) (k:Int) (v:List Int):MJ (WH m k v):=by
 induction m with
 | nil=>simp [MJ,WH,pG,qC]
 | cons y r ih=>
  have h1:=List.nodup_cons.1 h
  rw [zHA]
  split
  ·rename_i e
   exact List.nodup_cons.2 ⟨by rw [e]; exact h1.1,h1.2⟩
  ·rename_i e
   refine List.nodup_cons.2 ⟨fun hm=>?_,ih h1.2⟩
   rcases zHH hm with e' | hm
   ·exact e e'.symm
   ·exact h1.1 hm
theorem MJ.del {m:pS} (h:MJ m) (k:Int):MJ (XM m k):=by
 induction m with
 | nil=>exact h
 | cons y r ih=>
  have h1:=List.nodup_cons.1 h
  rw [Yh]
  split
  ·exact h1.2
  ·exact List.nodup_cons.2 ⟨fun hm=>h1.1 (zHL hm),ih h1.2⟩
theorem zQn {m:pS} (h:MJ m) (k k':Int):lA (XM m k) k'=if k'=k then none else lA m k':=by
 induction m with
 | nil=>simp [lA,XM,SB,uA]
 | cons y r ih=>
  have h1:=List.nodup_cons.1 h
  have ih:=ih h1.2
  rw [Yh]
  by_cases hk:k=y.1
  ·rw [if_pos hk]
   by_cases hk':k'=k
   ·rw [if_pos hk',Yi,hk',hk]
    exact h1.1
   ·rw [if_neg hk',aI,if_neg (by rw [←hk]; exact hk')]
  ·rw [if_neg hk,aI,ih,aI]
   by_cases hk':k'=y.1
   ·rw [if_pos hk',if_neg (by rw [hk']; exact fun e=>hk e.symm),if_pos hk']
   ·rw [if_neg hk',if_neg hk']
def Asc (K:List zB):Prop:=K.Pairwise fun a b=>a.Key<b.Key
def Nd (K:List zB):Prop:=∀ x∈K,x.Delete=false
def lS (K:List zB) (k:Int):Option (List Int):=(K.find? fun x=>x.Key==k).map (·.Value)
theorem Yj (k:Int):lS [] k=none:=rfl
theorem uL (x:zB) (K:List zB) (k:Int):lS (x::K) k=if x.Key=k then some x.Value else lS K k:=by
 unfold lS
 rw [List.find?_cons]
 by_cases h:x.Key=k
 ·simp [h]
 ·have:(x.Key==k)=false:=by simpa using h
  rw [this,if_neg h]
theorem gD {K:List zB} {k:Int}:lS K k=none↔∀ x∈K,x.Key≠k:=by
 unfold lS
 rw [Option.map_eq_none_iff,List.find?_eq_none]
 simp
theorem Ku:∀ {K1 K2:List zB},Asc K1→Asc K2→Nd K1→Nd K2→(∀ k,lS K1 k=lS K2 k)→K1=K2
 | [], [],_,_,_,_,_=>rfl
 | [],b::r,_,_,_,_,h=>by
  have:=h b.Key
  rw [Yj,uL,if_pos O] at this
  cases this
 | a::r, [],_,_,_,_,h=>by
  have:=h a.Key
  rw [Yj,uL,if_pos O] at this
  cases this
 | a::r1,b::r2,h1,h2,n1,n2,h=>by
  have p1:=List.pairwise_cons.1 h1
  have p2:=List.pairwise_cons.1 h2
  have hk:a.Key=b.Key:=by
   rcases Int.lt_trichotomy a.Key b.Key with hlt | heq | hgt
   ·exfalso
    have:=h a.Key
    rw [uL,if_pos O,uL,if_neg (by omega)] at this
    have h3:lS r2 a.Key=none:=gD.2 fun x hx=>by have:=p2.1 x hx; omega
    rw [h3] at this
    cases this
   ·exact heq
   ·exfalso
    have:=h b.Key
    rw [uL,if_neg (by omega),uL,if_pos O] at this
    have h3:lS r1 b.Key=none:=gD.2 fun x hx=>by have:=p1.1 x hx; omega
    rw [h3] at this
    cases this
  have hv:a.Value=b.Value:=by
   have:=h a.Key
   rw [uL,if_pos O,uL,if_pos hk.symm] at this
   injection this
  have hd:a.Delete=b.Delete:=(n1 a (by simp)).trans (n2 b (by simp)).symm
  have hab:a=b:=by
   obtain ⟨ak,av,ad⟩:=a
   obtain ⟨bk,bv,bd⟩:=b
   simp only at hk hv hd
   subst hk; subst hv; subst hd
   rfl
  subst hab
  congr 1
  refine Ku p1.2 p2.2 (fun x hx=>n1 x (by simp [hx])) (fun x hx=>n2 x (by simp [hx])) fun k=>?_
  by_cases hka:a.Key=k
  ·rw [gD.2 (fun x hx=>by have:=p1.1 x hx; omega),gD.2 (fun x hx=>by have:=p2.1 x hx; omega)]
  ·have:=h k
   rwa [uL,if_neg hka,uL,if_neg hka] at this
def WI (K:List zB) (c:zB):List zB:=
 if c.Delete then K.filter fun x=>x.Key != c.Key else (K.filter fun x=>decide (x.Key<c.Key))++c::K.filter fun x=>decide (c.Key<x.Key)
def vH (K:List zB) (l:List zB):List zB:=l.foldl WI K
theorem zKO {K:List zB} (h:Asc K) (c:zB):Asc (WI K c):=by
 unfold WI
 split
 ·exact h.sublist List.filter_sublist
 ·refine List.pairwise_append.2 ⟨h.sublist List.filter_sublist,List.pairwise_cons.2 ⟨fun x hx=>?_,h.sublist List.filter_sublist⟩,fun x hx y hy=>?_⟩
  ·have:=(List.mem_filter.1 hx).2
   simpa using this
  ·have h1:=(List.mem_filter.1 hx).2
   simp only [decide_eq_true_eq] at h1
   rcases List.mem_cons.1 hy with rfl | hy
   ·exact h1
   ·have h2:=(List.mem_filter.1 hy).2
    simp only [decide_eq_true_eq] at h2
    omega
theorem zNT {K:List zB} (h:Nd K) (c:zB):Nd (WI K c):=by
 unfold WI
 split
 ·exact fun x hx=>h x (List.mem_filter.1 hx).1
 ·rename_i hc
  intro x hx
  rcases List.mem_append.1 hx with hx | hx
  ·exact h x (List.mem_filter.1 hx).1
  ·rcases List.mem_cons.1 hx with rfl | hx
   ·simpa using hc
   ·exact h x (List.mem_filter.1 hx).1
theorem eI (K:List zB) (p:zB→Bool) (k:Int) (hp:∀ x∈K,x.Key=k→p x=true):lS (K.filter p) k=lS K k:=by
 induction K with
 | nil=>rfl
 | cons y r ih=>
  have ih:=ih fun x hx=>hp x (by simp [hx])
  rw [List.filter_cons,uL]
  by_cases hy:y.Key=k
  ·rw [if_pos (hp y (by simp) hy),uL,if_pos hy,if_pos hy]
  ·rw [if_neg hy]
   split
   ·rw [uL,if_neg hy,ih]
   ·exact ih
theorem pE (K:List zB) (p:zB→Bool) (k:Int) (hp:∀ x∈K,x.Key=k→p x=false):lS (K.filter p) k=none:=by
 rw [gD]
 intro x hx e
 have:=List.mem_filter.1 hx
 rw [hp x this.1 e] at this
 exact absurd this.2 (by decide)
theorem zKV (K L:List zB) (k:Int):lS (K++L) k=(lS K k).or (lS L k):=by
 unfold lS
 rw [List.find?_append]
 cases K.find? _ <;> rfl
theorem zIY (K:List zB) (c:zB) (k:Int):lS (WI K c) k=if k=c.Key then (if c.Delete then none else some c.Value) else lS K k:=by
 unfold WI
 by_cases hk:k=c.Key
 ·subst hk
  rw [if_pos O]
  split
  ·exact pE _ _ _ fun x _ e=>by simp [e]
  ·rw [zKV,pE _ _ _ (fun x _ e=>by simp [e]),uL,if_pos O]
   rfl
 ·rw [if_neg hk]
  split
  ·exact eI _ _ _ fun x _ e=>by simp [e,hk]
  ·rw [zKV,uL,if_neg (fun e=>hk e.symm)]
   by_cases hlt:k<c.Key
   ·rw [eI _ _ _ (fun x _ e=>by simp [e,hlt]),pE _ _ _ (fun x _ e=>by simp [e]; omega)]
    cases lS K k <;> rfl
   ·rw [pE _ _ _ (fun x _ e=>by simp [e]; omega),eI _ _ _ (fun x _ e=>by simp [e]; omega)]
    rfl
theorem cV:∀ {l K:List zB},Asc K→Asc (vH K l)
 | [],_,h=>h
 | c::l,_,h=>cV (l:=l) (zKO h c)
theorem Kv:∀ {l K:List zB},Nd K→Nd (vH K l)
 | [],_,h=>h
 | c::l,_,h=>Kv (l:=l) (zNT h c)
theorem Yk:∀ {l K:List zB} {x:zB},x∈vH K l→x∈K∨x∈l
 | [],_,_,h=>.inl h
 | c::l,K,x,h=>by
  rcases Yk (l:=l) h with h | h
  ·unfold WI at h
   split at h
   ·exact .inl (List.mem_filter.1 h).1
   ·rcases List.mem_append.1 h with h | h
    ·exact .inl (List.mem_filter.1 h).1
    ·rcases List.mem_cons.1 h with rfl | h
     ·exact .inr (by simp)
     ·exact .inl (List.mem_filter.1 h).1
  ·exact .inr (by simp [h])
def jd (l:List zB) (k:Int) (o:Option (List Int)):Option (List Int):=l.foldl (fun o c=>if k=c.Key then (if c.Delete then none else some c.Value) else o) o
theorem Yl:∀ (l K:List zB) (k:Int),lS (vH K l) k=jd l k (lS K k)
 | [],_,_=>rfl
 | c::l,K,k=>by
  unfold vH jd
  rw [List.foldl_cons,List.foldl_cons,←zIY]
  exact Yl l (WI K c) k
def iI (ks:List Int):List Int:=ks.mergeSort fun x y=>decide (x≤y)
theorem fB (ks:List Int):(iI ks).Perm ks:=List.mergeSort_perm _ _
theorem zOW {ks:List Int} (h:ks.Nodup):(iI ks).Pairwise (· < ·):=by
 have h1:(iI ks).Pairwise fun x y=>decide (x≤y)=true:=List.pairwise_mergeSort (fun a b c h1 h2=>by simp only [decide_eq_true_eq] at*; omega) (fun a b=>by simp only [Bool.or_eq_true,decide_eq_true_eq]; omega) ks
 have h2:(iI ks).Nodup:=(fB ks).nodup_iff.2 h
 have:=h1.and h2
 refine this.imp fun hh=>?_
 simp only [decide_eq_true_eq,ne_eq] at hh
 omega
def toL (m:pS):List zB:=(iI (qC m)).map fun k=>⟨k,(lA m k).getD [],false⟩
theorem zRk (m:pS):Nd (toL m):=fun x hx=>by
 obtain ⟨k,_,rfl⟩:=List.mem_map.1 hx
 rfl
theorem zOk {m:pS} (h:MJ m):Asc (toL m):=by
 unfold Asc toL
 rw [List.pairwise_map]
 exact (zOW h).imp fun h=>h
theorem qx (m:pS):(toL m).length=m.length:=by
 unfold toL
 rw [List.length_map,(fB _).length_eq]
 simp [qC]
theorem Ym (m:pS) (k:Int):lS (toL m) k=lA m k:=by
 have key:∀ (ks:List Int),lS (ks.map fun k=>(⟨k,(lA m k).getD [],false⟩:zB)) k=if k∈ks then some ((lA m k).getD []) else none:=by
  intro ks
  induction ks with
  | nil=>rfl
  | cons a r ih=>
   rw [List.map_cons,uL]
   by_cases h:a=k
   ·subst h; simp
   ·rw [if_neg h,ih]
    have:k≠a:=fun e=>h e.symm
    simp [this]
 unfold toL
 rw [key]
 by_cases h:k∈qC m
 ·rw [if_pos ((fB _).mem_iff.2 h)]
  cases hg:lA m k with
  | none=>exact absurd h (Yi.1 hg)
  | some v=>rfl
 ·rw [if_neg (fun hm=>h ((fB _).mem_iff.1 hm)),Yi.2 h]
def OD (m:pS) (l:List zB):pS:=l.foldl (fun m c=>if c.Delete then XM m c.Key else WH m c.Key c.Value) m
theorem qy:∀ {l:List zB} {m:pS},MJ m→MJ (OD m l)
 | [],_,h=>h
 | c::l,m,h=>by
  unfold OD
  rw [List.foldl_cons]
  split
  ·exact qy (l:=l) (h.del _)
  ·exact qy (l:=l) (h.set _ _)
theorem Kw:∀ {l:List zB} {m:pS},MJ m→toL (OD m l)=vH (toL m) l
 | [],_,_=>rfl
 | c::l,m,h=>by
  unfold OD vH
  rw [List.foldl_cons,List.foldl_cons]
  have h1:MJ (if c.Delete=true then XM m c.Key else WH m c.Key c.Value):=by split; exact h.del _; exact h.set _ _
  have h2:toL (if c.Delete=true then XM m c.Key else WH m c.Key c.Value)=WI (toL m) c:=by
   refine Ku (zOk h1) (zKO (zOk h) c) (zRk _) (zNT (zRk _) c) fun k=>?_
   rw [Ym,zIY,Ym]
   split
   ·rw [zQn h]
   ·rw [zPs]
  rw [←h2]
  exact Kw (l:=l) h1
theorem zLY {l:List zB} {m:pS} (h:MJ m):(OD m l).length=(vH (toL m) l).length:=by rw [←Kw h,qx]
theorem zLd (m:pS) (l:List zB) (hl:l.length≤1000000) (hv:∀ x∈l,x.Value.length≤1000000):wY (some m) l=some (some (OD m l)):=by
 unfold wY Rq
 rw [AA]
 refine vE (fun i=>((i:Int),some (OD m (l.take i)))) l.length (some (OD m l)) O (fun i hi=>?_) ?_ O
 ·have h2:=hv l[i] (List.getElem_mem hi)
  simp only
  rw [zS (by simp; omega),vS hi,AA,zV hi,yA hi (by omega)]
  unfold OD
  rw [List.foldl_append,List.foldl_cons,List.foldl_nil]
  cases hd:l[i].Delete
  ·rw [cond_false,Ko (by omega),AA]
   rfl
  ·rw [cond_true]
   rfl
 ·simp only
  rw [zM (by simp),List.take_length]
theorem zJk {m:pS} (hm:MJ m) (hl:m.length≤jG) (hv:∀ k v,lA m k=some v→v.length≤1000000):wS (some m)=some (toL m):=by
 unfold wS Uk iV
 have hsk:((some m:Option pS).getD [])=m:=rfl
 have hlen:(iI (qC m)).length=m.length:=by rw [(fB _).length_eq]; simp [qC]
 have hks:((m.map (·.1)).mergeSort fun x y=>decide (x≤y))=iI (qC m):=rfl
 rw [AA,hsk,if_pos hl,AA,hks]
 have hl1:m.length≤1000:=Nat.le_trans hl zGl
 refine vE (fun i=>((toL m).take i,(i:Int))) m.length (toL m) O (fun i hi=>?_) ?_ O
 ·have hi':i<(iI (qC m)).length:=by omega
  have hit:i<(toL m).length:=by rw [qx]; exact hi
  have hg:(toL m)[i]=⟨(iI (qC m))[i],(lA m (iI (qC m))[i]).getD [],false⟩:=by simp [toL]
  have hvl:((lA m (iI (qC m))[i]).getD []).length≤1000000:=by
   cases hh:lA m (iI (qC m))[i] with
   | none=>simp
   | some v=>exact hv _ v hh
  simp only
  rw [zS (by simp; omega),vS hi',AA]
  have hcl:zR ((uA (xE .u8).eq m (iI (qC m))[i]).getD [])=some ((lA m (iI (qC m))[i]).getD []):=Ko hvl
  rw [hcl,AA,sT (by simp; omega) (by simp; omega),AA,yA hi (by omega),zV hit,hg]
 ·simp only
  rw [zM (by rw [hlen]; simp),←qx,List.take_length]
structure OE (x:zB):Prop where
 key:0≤x.Key∧x.Key≤255
 len:x.Value.length≤28
 DK:DK x.Value
 del:x.Delete=true→x.Value= []
theorem zUz {b:List Int} (hr:DK b) {x:zB} {n:Nat} (h:SV b=some (x,n)):OE x:=by
 match b,h with
 | k::c::r,h=>
  have hk:=hr k (by simp)
  have hc:=hr c (by simp)
  have hr':DK r:=fun y hy=>hr y (by simp [hy])
  rw [kR] at h
  split at h
  ·injection h with h; injection h with h _; subst h
   exact ⟨hk,by simp,DK.nil,fun _=>O⟩
  ·split at h
   ·cases h
   ·rename_i h1
    injection h with h; injection h with h _; subst h
    exact ⟨hk,by simp; omega,hr'.take _,fun hd=>by cases hd⟩
theorem zLe:∀ (c:Nat) {b:List Int} {l:List zB} {n:Nat},DK b→lJ c b=some (l,n)→∀ x∈l,OE x
 | 0,b,l,n,_,h=>by injection h with h; injection h with h1 h2; subst h1; intro x hx; cases hx
 | c+1,b,l,n,hr,h=>by
  unfold lJ at h
  split at h
  ·cases h
  ·rename_i x k hk
   split at h
   ·cases h
   ·rename_i l' m hm
    injection h with h; injection h with h1 h2
    subst h1
    intro y hy
    rcases List.mem_cons.1 hy with rfl | hy
    ·exact zUz hr hk
    ·exact zLe c (hr.drop k) hm y hy
theorem zIy {b:List Int} {l:List zB} {n:Nat} (hr:DK b) (h:rW b=some (l,n)):1≤l.length∧l.length≤32∧∀ x∈l,OE x:=by
 match b,h with
 | c::r,h=>
  have hr':DK r:=fun y hy=>hr y (by simp [hy])
  rw [pH] at h
  split at h
  ·cases h
  ·rename_i hc
   split at h
   ·cases h
   ·rename_i l' m hm
    split at h
    ·injection h with h; injection h with h _; subst h
     have:=(Yf _ hr' hm).2
     exact ⟨by omega,by omega,zLe _ hr' hm⟩
    ·cases h
structure JZ (K:List zB):Prop where
 TK:Asc K
 nd:Nd K
 len:K.length≤32
 ok:∀ x∈K,OE x
theorem JZ.nil:JZ []:=⟨List.Pairwise.nil,fun x h=>(by cases h),by simp,fun x h=>(by cases h)⟩
theorem JZ.all {K l:List zB} (h:JZ K) (hl:∀ x∈l,OE x) (hn:(vH K l).length≤32):JZ (vH K l):=
 ⟨cV h.TK,Kv h.nd,hn,fun x hx=>by
  rcases Yk hx with hx | hx
  ·exact h.ok x hx
  ·exact hl x hx⟩
def gK:Nat→List Int→List zB→Nat→List zB × Nat
 | 0,_,K,t=>(K,t)
 | f+1,b,K,t=>match rW b with
  | none=>(K,t)
  | some (l,n)=>if (vH K l).length>32 then (K,t) else gK f (b.drop n) (vH K l) (t+n)
theorem Yn:∀ (f g:Nat) {b:List Int} (K:List zB) (t:Nat),DK b→b.length≤f→b.length≤g→gK f b K t=gK g b K t
 | 0,0,b,K,t,_,_,_=>rfl
 | 0,g+1,b,K,t,_,h,_=>by
  have:b= []:=List.eq_nil_of_length_eq_zero (by omega)
  subst this
  rfl
 | f+1,0,b,K,t,_,_,h=>by
  have:b= []:=List.eq_nil_of_length_eq_zero (by omega)
  subst this
  rfl
 | f+1,g+1,b,K,t,hr,h1,h2=>by
  unfold gK
  cases hb:rW b with
  | none=>rfl
  | some p=>
   obtain ⟨l,n⟩:=p
   have hn:=oS hr hb
   simp only
   split
   ·rfl
   ·exact Yn f g _ _ (hr.drop n) (by simp; omega) (by simp; omega)
def qU (b:List Int) (K:List zB) (t:Nat):List zB × Nat:=gK b.length b K t
theorem jQ {b:List Int} (hr:DK b) (K:List zB) (t:Nat):qU b K t=match rW b with
  | none=>(K,t)
  | some (l,n)=>if (vH K l).length>32 then (K,t) else qU (b.drop n) (vH K l) (t+n):=by
 have h1:qU b K t=gK (b.length+1) b K t:=Yn _ _ _ _ hr (Nat.le_refl _) (by omega)
 rw [h1]
 unfold gK
 cases hb:rW b with
 | none=>rfl
 | some p=>
  obtain ⟨l,n⟩:=p
  have hn:=oS hr hb
  simp only
  split
  ·rfl
  ·exact Yn _ _ _ _ (hr.drop n) (by simp) (Nat.le_refl _)
theorem zMm:∀ (f:Nat) {b:List Int} {K:List zB} (t:Nat),DK b→JZ K→JZ (gK f b K t).1∧t≤(gK f b K t).2∧(gK f b K t).2≤t+b.length
 | 0,b,K,t,_,h=>⟨h,by simp [gK],by simp [gK]⟩
 | f+1,b,K,t,hr,h=>by
  unfold gK
  cases hb:rW b with
  | none=>exact ⟨h,by simp,by simp⟩
  | some p=>
   obtain ⟨l,n⟩:=p
   have hn:=oS hr hb
   simp only
   split
   ·exact ⟨h,by simp,by simp⟩
   ·obtain ⟨h1,h2,h3⟩:=zMm f (t+n) (hr.drop n) (h.all (zIy hr hb).2.2 (by omega))
    simp only [List.length_drop] at h3
    exact ⟨h1,by omega,by omega⟩
theorem Df {b:List Int} {K:List zB} (t:Nat) (hr:DK b) (h:JZ K):JZ (qU b K t).1∧t≤(qU b K t).2∧(qU b K t).2≤t+b.length:=zMm _ t hr h
def bP (b:List Int):Int:=b.getD 0 0+256*b.getD 1 0+65536*b.getD 2 0+16777216*b.getD 3 0
theorem zWd {a b c d:Int} (ha:0≤a∧a≤255) (hb:0≤b∧b≤255) (hc:0≤c∧c≤255) (hd:0≤d∧d≤255):
  CZ .i64 (CZ .i64 (CZ .i64 (wrap .i64 a) (yM .i64 (wrap .i64 b) 8)) (yM .i64 (wrap .i64 c) 16)) (yM .i64 (wrap .i64 d) 24)=a+256*b+65536*c+16777216*d:=by
 obtain ⟨a,ha,rfl⟩:=sW ha
 obtain ⟨b,hb,rfl⟩:=sW hb
 obtain ⟨c,hc,rfl⟩:=sW hc
 obtain ⟨d,hd,rfl⟩:=sW hd
 have e8:(8:Int)=((8:Nat):Int):=rfl
 have e16:(16:Int)=((16:Nat):Int):=rfl
 have e24:(24:Int)=((24:Nat):Int):=rfl
 have p8:2 ^ 8=256:=rfl
 have p16:2 ^ 16=65536:=rfl
 have Yo:2 ^ 24=16777216:=rfl
 rw [xO (by omega),xO (by omega),xO (by omega),xO (by omega),e8,e16,e24,Iq (by omega) (by omega),Iq (by omega) (by omega),Iq (by omega) (by omega)]
 rw [Ip (by omega) (by omega),eO (by omega),Ip (by omega) (by omega),eO (by omega),Ip (by omega) (by omega),eO (by omega),p8,p16,Yo]
 omega
def rH (b:List Int):Option (Int × List zB × Nat):=
 if b.getD 4 0≠0∨bP b<1∨bP b>2147483648 then none else some (bP b,qU (b.drop 5) [] 5)
def Ky (BA:List Int):uO→Option (vM uO uO):=
 (fun (s1:uO)=>bnd (Go.Proofs.YtccooahdinmfmaaGreatDoor.sub BA s1.tail (BA.length:Int)) fun l1=>bnd (qR l1) fun r1=>bif !r1.2.2 then (some (.done s1)) else (bnd (wY s1.all r1.1) fun r2=>bif decide ((((r2.getD []).length:Nat):Int)>32) then (some (.done s1)) else (some (.next (⟨s1.generation,r2,wrap .i64 (s1.tail+r1.2.1),s1.clean⟩:uO)))))
theorem Kz {b:List Int} {t:Nat} (h:t≤b.length):Go.Proofs.YtccooahdinmfmaaGreatDoor.sub b (t:Int) (b.length:Int)=some (b.drop t):=by
 rw [aM h (Nat.le_refl _),List.take_of_length_le (by simp)]
theorem zIj {b:List Int} (hr:DK b) (hl:b.length≤16384) (g:Int):∀ (f t:Nat) (m:pS),(b.drop t).length≤f→t≤b.length→MJ m→
    ∃ m',zI (Ky b) (⟨g,some m,(t:Int),false⟩:uO)=some (⟨g,some m',((qU (b.drop t) (toL m) t).2:Int),false⟩:uO)∧MJ m'∧toL m'=(qU (b.drop t) (toL m) t).1
  | f,t,m,hf,ht,hm=>by
    have hrd:=hr.drop t
    rw [jQ hrd]
    have hstep:Ky b (⟨g,some m,(t:Int),false⟩:uO)=some (match rW (b.drop t) with
        | none=>.done (⟨g,some m,(t:Int),false⟩:uO)
        | some (l,n)=>if (vH (toL m) l).length>32 then .done (⟨g,some m,(t:Int),false⟩:uO) else .next (⟨g,some (OD m l),((t+n:Nat):Int),false⟩:uO)):=by
      unfold Ky
      simp only
      rw [Kz ht,AA,zTa hrd (by simp; omega),AA]
      cases hb:rW (b.drop t) with
      | none=>rfl
      | some p=>
        obtain ⟨l,n⟩:=p
        have hn:=oS hrd hb
        have ho:=zIy hrd hb
        simp only [List.length_drop] at hn
        simp only [Yg,Bool.not_true,cond_false]
        rw [zLd m l (by omega) (fun x hx=>by have:=(ho.2.2 x hx).len; omega),AA]
        have hlen:(((some (OD m l):Option pS).getD []).length:Int)=((vH (toL m) l).length:Int):=by
          show ((OD m l).length:Int)=_
          rw [zLY hm]
        rw [hlen]
        by_cases hgt:(vH (toL m) l).length>32
        · rw [zS (by simp; omega),if_pos hgt]
        · rw [zM (by simp; omega), if_neg hgt, zC (by omega) (by omega)]
          rfl
    cases hb:rW (b.drop t) with
    | none=>
      rw [hb] at hstep
      exact ⟨m,zZ hstep,hm,O⟩
    | some p=>
      obtain ⟨l,n⟩:=p
      have hn:=oS hrd hb
      simp only [List.length_drop] at hn hf
      rw [hb] at hstep
      simp only at hstep ⊢
      split
      · rename_i hgt
        rw [if_pos hgt] at hstep
        exact ⟨m,zZ hstep,hm,O⟩
      · rename_i hgt
        rw [if_neg hgt] at hstep
        match f,hf with
        | 0,hf=>omega
        | f+1,hf=>
          obtain ⟨m',h1,h2,h3⟩:=zIj hr hl g f (t+n) (OD m l) (by simp; omega) (by omega) (qy hm)
          rw [Kw hm] at h1 h3
          refine ⟨m',?_,h2,?_⟩
          · rw [List.drop_drop]
            exact yQ hstep h1
          · rw [List.drop_drop]
            exact h3
theorem zMn {b:List Int} (hr:DK b) (h64:64≤b.length) (hl:b.length≤16384):(rH b=none∧rJ b=some (⟨0,none,0,false⟩,false))∨
  ∃ m,rH b=some (bP b,qU (b.drop 5) [] 5)∧rJ b=some (⟨bP b,some m,((qU (b.drop 5) [] 5).2:Int),sV (b.drop (qU (b.drop 5) [] 5).2)⟩,true)∧MJ m∧toL m=(qU (b.drop 5) [] 5).1:=by
 have hg:=zWd (hr.get 0) (hr.get 1) (hr.get 2) (hr.get 3)
 have e:∀ i:Nat,i<64→AU b (i:Int)=some (b.getD i 0):=fun i hi=>Cm (by omega)
 have e0:AU b 0=some (b.getD 0 0):=e 0 (by omega)
 have e1:AU b 1=some (b.getD 1 0):=e 1 (by omega)
 have e2:AU b 2=some (b.getD 2 0):=e 2 (by omega)
 have e3:AU b 3=some (b.getD 3 0):=e 3 (by omega)
 have e4:AU b 4=some (b.getD 4 0):=e 4 (by omega)
 have hgen:CZ .i64 (CZ .i64 (CZ .i64 (wrap .i64 (b.getD 0 0)) (yM .i64 (wrap .i64 (b.getD 1 0)) 8)) (yM .i64 (wrap .i64 (b.getD 2 0)) 16)) (yM .i64 (wrap .i64 (b.getD 3 0)) 24)=bP b:=hg
 unfold rJ rH
 rw [e0,AA,e1,AA,e2,AA,e3,AA,e4,AA,hgen]
 by_cases h4:b.getD 4 0≠0
 ·left
  rw [if_pos (.inl h4),zS (by simpa using h4),AA]
  exact ⟨O,O⟩
 ·rw [zM (by simpa using h4)]
  by_cases hg1:bP b<1
  ·left
   rw [if_pos (.inr (.inl hg1)),zS (by simpa using hg1),AA]
   exact ⟨O,O⟩
  ·rw [zM (by simpa using hg1),AA]
   by_cases hg2:bP b>2147483648
   ·left
    rw [if_pos (.inr (.inr hg2)),zS (by simpa using hg2)]
    exact ⟨O,O⟩
   ·right
    rw [if_neg (by simp only [not_or]; exact ⟨h4,hg1,hg2⟩),zM (by simpa using hg2)]
    obtain ⟨m',h1,h2,h3⟩:=zIj hr hl (bP b) (b.drop 5).length 5 [] (Nat.le_refl _) (by omega) (by simp [MJ,qC])
    have e5:toL []= []:=by simp [toL,iI,qC]
    rw [e5] at h1 h3
    refine ⟨m',O,?_,h2,h3⟩
    have ht:=(Df 5 (hr.drop 5) JZ.nil).2.2
    simp only [List.length_drop] at ht
    unfold Ky at h1
    refine zE h1 ?_
    simp only
    rw [Kz (by omega),AA,Kt (by simp; omega),AA]
structure OS where
 act:Int
 gen:Int
 K:List zB
 tail:Int
 clean:Bool
def pick (o:OS) (i:Int) (b:List Int):OS:=match rH b with
 | none=>o
 | some (g,K,t)=>if g>o.gen then ⟨i,g,K,(t:Int),sV (b.drop t)⟩ else o
def yU (d:zA) (k:Nat):List Int:=(d.bytes.drop (k*d.size.toNat)).take d.size.toNat
def os0:OS:=⟨-1,0, [],0,false⟩
def BQ (d:zA) (f:Nat):OS:=pick (pick os0 0 (yU d f)) 1 (yU d (f+1))
structure RJ (s:yD) (f:Nat) (o:OS):Prop where
 d:s.d=true
 first:s.first=(f:Int)
 act:s.active=o.act
 gen:s.generation=o.gen
 all:∃ m,s.all=some m∧MJ m∧toL m=o.K
 tail:s.tail=o.tail
 clean:s.clean=o.clean
 ended:s.ended=false
theorem jW {d:zA} (h:FQ d) {k:Nat} (hk:k<d.AY.length):(yU d k).length=d.size.toNat:=by
 have:=tP h hk
 simp only [yU,List.length_take,List.length_drop]
 omega
theorem nU {d:zA} (h:FQ d) (k:Nat):DK (yU d k):=(h.DK.drop _).take _
theorem Yp {d:zA} (h:FQ d) (hd:d.down=false) {k:Nat} (hk:k<d.AY.length):Kq d (((k*d.size.toNat:Nat):Int)) d.size=(yU d k,0):=by
 have h1:=tP h hk
 have h2:=h.size
 unfold Kq
 rw [if_neg (by simp [hd]),if_pos ⟨by omega,by omega,by omega,by omega⟩]
 rfl
def Dh (first:Int):yD × zA × Int→Option (vM (yD × zA × Int) ((zA × (Option yD) × Int) ⊕ (yD × zA))):=
 (fun (s1:yD × zA × Int)=>bif decide (s1.2.2<2) then (bnd (zK s1.2.1) fun r3=>bnd (zK s1.2.1) fun r4=>bnd (xU s1.2.1 (wrap .i64 ((wrap .i64 (first+s1.2.2))*r3)) r4) fun r5=>bif (r5.2.2 != 0) then (some (.done (.inl (r5.1,none,r5.2.2)))) else (bnd (rJ r5.2.1) fun r6=>bnd ((bif r6.2 then (some (decide (r6.1.generation>s1.1.generation))) else (some false):Option Bool)) fun o4=>bif o4 then (some (.next ((⟨s1.1.d,s1.1.first,s1.2.2,r6.1.generation,r6.1.all,r6.1.tail,r6.1.clean,s1.1.ended⟩:yD),r5.1,wrap .i64 (s1.2.2+1)))) else (some (.next (s1.1,r5.1,wrap .i64 (s1.2.2+1)))))) else (some (.done (.inr (s1.1,s1.2.1)))))
theorem zIb {d:zA} (h:FQ d) (hd:d.down=false) (hz:1024≤d.size) {f i:Nat} (hi:i<2) (hf:f+i<d.AY.length) {s:yD} {o:OS} (hs:RJ s f o):
  ∃ s',Dh (f:Int) (s,d,(i:Int))=some (.next (s',d,((i+1:Nat):Int)))∧RJ s' f (pick o (i:Int) (yU d (f+i))):=by
 have hw:=h.AY
 have hsz:=h.size
 have hle:=tP h hf
 have hb:=h.bound
 obtain ⟨z,hzz⟩:∃ z:Nat,d.size=(z:Int):=⟨d.size.toNat,by omega⟩
 have hz1:d.size.toNat=z:=by rw [hzz]; rfl
 rw [hz1] at hle
 have hoff:wrap .i64 (wrap .i64 ((f:Int)+(i:Int))*d.size)=(((f+i)*d.size.toNat:Nat):Int):=by
  rw [zC (x:=(f:Int)+(i:Int)) (by omega) (by omega),hz1,hzz]
  have:((f:Int)+(i:Int))*(z:Int)=(((f+i)*z:Nat):Int):=by simp [Int.add_mul,Nat.add_mul]
  rw [this,xO (by omega)]
 have hrd:=Yp h hd hf
 have hsl:(yU d (f+i)).length=d.size.toNat:=jW h hf
 have Yq:=zMn (nU h (f+i)) (by omega) (by omega)
 unfold Dh
 simp only
 rw [zS (by simp; omega)]
 unfold zK
 rw [AA,AA,Yc h _ _ (by rw [hoff]; omega),AA,hoff,hrd]
 simp only
 rw [zM (by decide)]
 rcases Yq with ⟨h1,h2⟩ | ⟨m,h1,h2,h3,h4⟩
 ·rw [h2,AA]
  simp only
  rw [zM O,AA,cond_false,zC (by omega) (by omega)]
  refine ⟨s,O,?_⟩
  unfold pick
  rw [h1]
  exact hs
 ·rw [h2,AA]
  simp only
  rw [zS O,AA,zC (by omega) (by omega)]
  unfold pick
  rw [h1]
  simp only
  by_cases hg:bP (yU d (f+i))>o.gen
  ·rw [zS (by rw [hs.gen]; simpa using hg),if_pos hg]
   exact ⟨_,O,⟨hs.d,hs.first,O,O,⟨m,O,h3,h4⟩,O,O,hs.ended⟩⟩
  ·rw [zM (by rw [hs.gen]; simpa using hg),if_neg hg]
   exact ⟨s,O,hs⟩
theorem zUw {d:zA} (h:FQ d) (hd:d.down=false) (hz:1024≤d.size) {f:Nat} (hf:f+1<d.AY.length):∃ s,wX d (f:Int)=some (d,some s,0)∧RJ s f (BQ d f):=by
 have hw:=h.AY
 unfold wX
 rw [zM (by simp <;> omega)]
 unfold vO
 rw [AA,AA,zC (by omega) (by omega),zM (by simp <;> omega)]
 unfold zK
 rw [AA,zM (by simp <;> omega)]
 have et:toL []= []:=by simp [toL,iI,qC]
 have h0:RJ (⟨true,(f:Int),(-1),0,(some []),0,false,false⟩:yD) f os0:=⟨O,O,O,O,⟨[],O,by simp [MJ,qC],et⟩,O,O,O⟩
 obtain ⟨s1,e1,r1⟩:=zIb h hd hz (i:=0) (by omega) (by omega) h0
 obtain ⟨s2,e2,r2⟩:=zIb h hd hz (i:=1) (by omega) hf r1
 have e3:Dh (f:Int) (s2,d,((2:Nat):Int))=some (.done (.inr (s2,d))):=by
  unfold Dh
  simp only
  rw [zM (by simp)]
 have hl:=yQ e1 (yQ e2 (zZ e3))
 unfold Dh zK at hl
 refine ⟨s2,?_,r2⟩
 have e0:((0:Nat):Int)=0:=rfl
 rw [e0] at hl
 exact zE hl O
theorem zOe {o:OS} {i:Int} {b:List Int} (hr:DK b) (h:JZ o.K):JZ (pick o i b).K:=by
 unfold pick
 cases hb:rH b with
 | none=>exact h
 | some p=>
  obtain ⟨g,K,t⟩:=p
  simp only
  split
  ·unfold rH at hb
   split at hb
   ·cases hb
   ·injection hb with hb
    injection hb with _ hb
    have:=(Df 5 (hr.drop 5) JZ.nil).1
    rw [hb] at this
    exact this
  ·exact h
theorem zRm {d:zA} (h:FQ d) (f:Nat):JZ (BQ d f).K:=zOe (nU h _) (zOe (nU h _) JZ.nil)
def TL (seen:List Int):List zB→Int
 | []=>0
 | x::r=>if x.Value.length>28∨(x.Delete=true∧x.Value.length>0) then 1 else if x.Key∈seen then 7 else TL (x.Key::seen) r
def jO (l:List zB):Int:=if l.length>32 then 3 else TL [] l
theorem zLB:∀ (l:List zB) (seen:List Int),TL seen l=0∨TL seen l=1∨TL seen l=7
 | [],_=>.inl O
 | x::r,seen=>by
  unfold TL
  split
  ·exact .inr (.inl O)
  ·split
   ·exact .inr (.inr O)
   ·exact zLB r _
theorem zMe (l:List zB):jO l=0∨jO l=1∨jO l=7∨jO l=3:=by
 unfold jO
 split
 ·simp
 ·rcases zLB l [] with h | h | h <;> simp [h]
theorem zOn:∀ {l:List zB} {seen:List Int},TL seen l=0→∀ x∈l,x.Value.length≤28∧(x.Delete=true→x.Value= [])
 | [],_,_,x,hx=>by cases hx
 | y::r,seen,h,x,hx=>by
  unfold TL at h
  split at h
  ·cases h
  ·rename_i h1
   split at h
   ·cases h
   ·rcases List.mem_cons.1 hx with rfl | hx
    ·refine ⟨by omega,fun hd=>List.eq_nil_of_length_eq_zero ?_⟩
     simp only [hd,true_and] at h1
     omega
    ·exact zOn h x hx
theorem La {l:List zB} (h:jO l=0):l.length≤32∧∀ x∈l,x.Value.length≤28∧(x.Delete=true→x.Value= []):=by
 unfold jO at h
 split at h
 ·cases h
 ·exact ⟨by omega,zOn h⟩
def Di (BM:List zB):Int × (List (Int × Bool))→Option (vM (Int × (List (Int × Bool))) (Int ⊕ (List (Int × Bool)))):=
 (fun (s1:Int × (List (Int × Bool)))=>bif decide (s1.1<(BM.length:Int)) then (bnd (AU BM s1.1) fun x1=>bnd ((bif decide ((x1.Value.length:Int)>28) then (some true) else (bif x1.Delete then (some (decide ((x1.Value.length:Int)>0))) else (some false)):Option Bool)) fun o3=>bif o3 then (some (.done (.inl 1))) else (bif (uA (xE .u8).eq s1.2 x1.Key).getD false then (some (.done (.inl 7))) else (some (.next (wrap .i64 (s1.1+1),pG (xE .u8).eq s1.2 x1.Key true))))) else (some (.done (.inr s1.2))))
def zRv (e:Int) (m:List (Int × Bool)):Int ⊕ (List (Int × Bool)):=if e=0 then .inr m else .inl e
theorem zLO {l:List zB} (hl:l.length≤1000000):∀ (k i:Nat) (m:List (Int × Bool)) (seen:List Int),i+k=l.length→(∀ q,(uA (xE .u8).eq m q).getD false=decide (q∈seen))→
  ∃ m',zI (Di l) ((i:Int),m)=some (zRv (TL seen (l.drop i)) m')
 | 0,i,m,seen,h,_=>by
  refine ⟨m,zZ ?_⟩
  unfold Di
  simp only
  rw [zM (by simp; omega),List.drop_eq_nil_of_le (by omega)]
  rfl
 | k+1,i,m,seen,h,hm=>by
  have hi:i<l.length:=by omega
  have hd:l.drop i=l[i]::l.drop (i+1):=(List.getElem_cons_drop (h:=hi)).symm
  rw [hd]
  have hst:Di l ((i:Int),m)=some (if l[i].Value.length>28∨(l[i].Delete=true∧l[i].Value.length>0) then .done (.inl 1) else if l[i].Key∈seen then .done (.inl 7) else .next (((i+1:Nat):Int),pG (xE .u8).eq m l[i].Key true)):=by
   unfold Di
   simp only
   rw [zS (by simp; omega),vS hi,AA]
   have hc:(bif decide ((l[i].Value.length:Int)>28) then (some true) else (bif l[i].Delete then (some (decide ((l[i].Value.length:Int)>0))) else (some false)):Option Bool)=some (decide (l[i].Value.length>28∨(l[i].Delete=true∧l[i].Value.length>0))):=by
    by_cases h1:l[i].Value.length>28
    ·rw [zS (by simp; omega),decide_eq_true (.inl h1)]
    ·rw [zM (by simp; omega)]
     cases hdl:l[i].Delete
     ·rw [cond_false]
      congr 1
      symm
      simp [h1]
     ·rw [cond_true]
      congr 1
      rw [decide_eq_decide]
      simp [h1]
   rw [hc,AA,hm]
   by_cases h1:l[i].Value.length>28∨(l[i].Delete=true∧l[i].Value.length>0)
   ·rw [decide_eq_true h1,cond_true,if_pos h1]
   ·rw [decide_eq_false h1,cond_false,if_neg h1]
    by_cases h2:l[i].Key∈seen
    ·rw [decide_eq_true h2,cond_true,if_pos h2]
    ·rw [decide_eq_false h2,cond_false,if_neg h2,yA hi (by omega)]
  unfold TL
  by_cases h1:l[i].Value.length>28∨(l[i].Delete=true∧l[i].Value.length>0)
  ·rw [if_pos h1] at hst
   rw [if_pos h1]
   exact ⟨m,zZ hst⟩
  ·rw [if_neg h1] at hst
   rw [if_neg h1]
   by_cases h2:l[i].Key∈seen
   ·rw [if_pos h2] at hst
    rw [if_pos h2]
    exact ⟨m,zZ hst⟩
   ·rw [if_neg h2] at hst
    rw [if_neg h2]
    obtain ⟨m',hm'⟩:=zLO hl k (i+1) (pG (xE .u8).eq m l[i].Key true) (l[i].Key::seen) (by omega) fun q=>by
     rw [Sv jS]
     by_cases hq:q=l[i].Key
     ·simp [hq]
     ·rw [if_neg hq,hm]
      simp [hq]
    exact ⟨m',yQ hst hm'⟩
theorem zSe {l:List zB} (hl:l.length≤1000000):nK l=some (jO l):=by
 unfold nK jO
 by_cases h:l.length>32
 ·rw [zS (by simp; omega),if_pos h]
 ·rw [zM (by simp; omega),if_neg h]
  obtain ⟨m',hm'⟩:=zLO hl l.length 0 [] [] (by omega) (fun q=>by simp [uA])
  unfold Di at hm'
  refine zE hm' ?_
  rw [List.drop_zero]
  unfold zRv
  split
  ·rename_i h0
   rw [h0]
   rfl
  ·rfl
def bZ (g:Int):List Int:= [wrap .u8 g,wrap .u8 (xP .i64 g 8),wrap .u8 (xP .i64 g 16),wrap .u8 (xP .i64 g 24)]
def oI (r:zA × Int) (f:zA→zA × Int):zA × Int:=if r.2=0 then f r.1 else r
def rD (o:OS):Nat:=if o.act=0 then 1 else 0
def oG (o:OS) (d:zA) (f:Nat) (next:List zB):zA × Int:=
 let k:=f+rD o
 let at_:Int:=((k*d.size.toNat:Nat):Int)
 oI (oI (oI (if sV (yU d k) then (d,0) else tU d (k:Int)) fun d1=>zO d1 at_ (bZ (o.gen+1))) fun d2=>if next= [] then (d2,0) else zO d2 (at_+5) (wI next)) fun d3=>zO d3 (at_+4) [0]
def Dj (o:OS) (next:List zB):OS:=⟨(rD o:Int),o.gen+1,next,5+(if next= [] then 0 else ((wI next).length:Int)),true⟩
def dR (o o':OS) (r:zA × Int):Option OS × zA × Int:=if r.2=0 then (some o',r.1,0) else if r.2=10 then (none,r.1,10) else (some o,r.1,r.2)
def OU (o:OS) (d:zA) (f:Nat) (l:List zB):Option OS × zA × Int:=
 if d.down then (none,d,10) else if jO l≠0 then (some o,d,jO l) else if l= [] then (some o,d,0) else if (vH o.K l).length>32 then (some o,d,3) else
  if 0≤o.act∧o.clean=true∧((wI l).length:Int)≤d.size - o.tail then dR o ⟨o.act,o.gen,vH o.K l,o.tail+(wI l).length,o.clean⟩ (zO d (((f+o.act.toNat)*d.size.toNat:Nat)+o.tail) (wI l))
  else if o.gen=2147483648 then (some o,d,3) else dR o (Dj o (vH o.K l)) (oG o d f (vH o.K l))
def Dk:yD:=⟨false,0,0,0,none,0,false,true⟩
def zYT (s':yD) (f:Nat) (o:Option OS):Prop:=match o with
 | none=>s'=Dk
 | some o=>RJ s' f o
structure Lc (o:OS):Prop where
 K:JZ o.K
 act: -1≤o.act∧o.act≤1
 tail:0≤o.tail∧o.tail≤16384
 gen:0≤o.gen∧o.gen≤2147483648
theorem jK {l:List zB} (hl:l.length≤32) (h:∀ x∈l,OE x):DK (wI l):=by
 unfold wI
 refine DK.app (DK.cons ?_ fun y hy=>?_) (DK.cons (by decide) DK.nil)
 ·rw [oC (by omega) (by omega)]; omega
 ·obtain ⟨x,hx,hy⟩:=List.mem_flatMap.1 hy
  have hok:=h x hx
  unfold eQ at hy
  split at hy
  ·simp only [List.mem_cons,List.not_mem_nil,or_false] at hy
   rcases hy with rfl | rfl
   ·exact hok.key
   ·decide
  ·rcases List.mem_cons.1 hy with rfl | hy
   ·exact hok.key
   ·rcases List.mem_cons.1 hy with rfl | hy
    ·have:=hok.len
     rw [oC (by omega) (by omega)]
     omega
    ·exact hok.DK y hy
theorem Ld {l:List zB} (hl:l.length≤32) (h:∀ x∈l,OE x):2≤(wI l).length∧(wI l).length≤962:=by
 have key:∀ (l:List zB),(∀ x∈l,OE x)→(l.flatMap eQ).length≤l.length*30:=by
  intro l
  induction l with
  | nil=>intro _; simp
  | cons x r ih=>
   intro h
   have h1:=(zLy x).2
   have h2:=(h x (by simp)).len
   have h3:=ih fun y hy=>h y (by simp [hy])
   simp only [List.flatMap_cons,List.length_append,List.length_cons]
   omega
 have:=key l h
 unfold wI
 simp only [List.length_append,List.length_cons,List.length_nil]
 omega
theorem Yr (g:Int):DK (bZ g):=by
 have h:∀ x:Int,0≤wrap .u8 x∧wrap .u8 x≤255:=fun x=>by rw [Sr]; omega
 exact DK.cons (h _) (DK.cons (h _) (DK.cons (h _) (DK.cons (h _) DK.nil)))
theorem zOs {r:zA × Int} {g:zA→zA × Int} {d:zA} (hr:FQ r.1∧r.1.size=d.size∧r.1.AY.length=d.AY.length∧r.1.bytes.length=d.bytes.length∧r.1.BU=d.BU)
  (hg:∀ e,FQ e→e.size=d.size→e.AY.length=d.AY.length→e.bytes.length=d.bytes.length→e.BU=d.BU→FQ (g e).1∧(g e).1.size=d.size∧(g e).1.AY.length=d.AY.length∧(g e).1.bytes.length=d.bytes.length∧(g e).1.BU=d.BU):
  FQ (oI r g).1∧(oI r g).1.size=d.size∧(oI r g).1.AY.length=d.AY.length∧(oI r g).1.bytes.length=d.bytes.length∧(oI r g).1.BU=d.BU:=by
 unfold oI
 split
 ·exact hg r.1 hr.1 hr.2.1 hr.2.2.1 hr.2.2.2.1 hr.2.2.2.2
 ·exact hr
theorem zMl {d:zA} (h:FQ d) {b:List Int} (hb:DK b) (at_:Int):FQ (zO d at_ b).1∧(zO d at_ b).1.size=d.size∧(zO d at_ b).1.AY.length=d.AY.length∧(zO d at_ b).1.bytes.length=d.bytes.length∧(zO d at_ b).1.BU=d.BU:=by
 obtain ⟨h1,h2,h3,h4,h5⟩:=Yb h hb at_
 exact ⟨h1,h2,by rw [h3],h4,h5⟩
theorem zNK {d e:zA} (h:FQ e) (h1:e.size=d.size) (h2:e.AY.length=d.AY.length) (h3:e.bytes.length=d.bytes.length) (h4:e.BU=d.BU) {b:List Int} (hb:DK b) (at_:Int):
  FQ (zO e at_ b).1∧(zO e at_ b).1.size=d.size∧(zO e at_ b).1.AY.length=d.AY.length∧(zO e at_ b).1.bytes.length=d.bytes.length∧(zO e at_ b).1.BU=d.BU:=by
 obtain ⟨a1,a2,a3,a4,a5⟩:=zMl h hb at_
 exact ⟨a1,a2.trans h1,a3.trans h2,a4.trans h3,a5.trans h4⟩
theorem zKZ {m:pS} {K:List zB} (h:toL m=K) (hK:JZ K):∀ k v,lA m k=some v→v.length≤28∧DK v:=fun k v hv=>by
 rw [←Ym,h] at hv
 unfold lS at hv
 rw [Option.map_eq_some_iff] at hv
 obtain ⟨x,hx,rfl⟩:=hv
 have:=hK.ok x (List.mem_of_find?_eq_some hx)
 exact ⟨this.len,this.DK⟩
def Yt (s:yD) (o:OS) (m:pS) (N:List zB):yD:=⟨s.d,s.first,(rD o:Int),o.gen+1,some m,5+(if N= [] then 0 else ((wI N).length:Int)),true,s.ended⟩
theorem zUV {s:yD} {f:Nat} {o:OS} {d:zA} {m:pS} {N:List zB} (hs:RJ s f o) (ho:Lc o) (hg:o.gen≠2147483648) (h:FQ d) (hd:d.down=false) (hz:1024≤d.size) (hf:f+1<d.AY.length) (hm:MJ m) (hN:toL m=N) (hK:JZ N) (hsm:N.length≤jG):
  uX s (some m) d=some (if (oG o d f N).2=0 then Yt s o m N else s,(oG o d f N).1,(oG o d f N).2):=by
 have hw:=h.AY
 have hsz:=h.size
 have hgb:=ho.gen
 have hb:=h.bound
 obtain ⟨z,hzz⟩:∃ z:Nat,d.size=(z:Int):=⟨d.size.toNat,by omega⟩
 have hz1:d.size.toNat=z:=by rw [hzz]; rfl
 have hk:f+rD o<d.AY.length:=by unfold rD; split <;> omega
 have hle:=tP h hk
 rw [hz1] at hle
 have hoth:((bif (s.active==0) then (some 1) else (some 0):Option Int))=some ((rD o:Nat):Int):=by
  rw [hs.act]
  unfold rD
  by_cases ha:o.act=0
  ·rw [zS (by simpa using ha),if_pos ha]; rfl
  ·rw [zM (by simpa using ha),if_neg ha]; rfl
 have XO:iZ s.d=some true:=by rw [hs.d]; rfl
 have Dl:rD o≤1:=by unfold rD; split <;> omega
 have hfo:wrap .i64 (s.first+((rD o:Nat):Int))=((f+rD o:Nat):Int):=by rw [hs.first,zC (by omega) (by omega)]; omega
 have hoff:wrap .i64 (((f+rD o:Nat):Int)*d.size)=(((f+rD o)*d.size.toNat:Nat):Int):=by
  rw [hz1,hzz]
  have:(((f+rD o:Nat):Int)*(z:Int))=(((f+rD o)*z:Nat):Int):=by simp
  rw [this,xO (by omega)]
 have hgen:wrap .i64 (s.generation+1)=o.gen+1:=by rw [hs.gen,zC (by omega) (by omega)]
 have hsl:(yU d (f+rD o)).length=d.size.toNat:=jW h hk
 have hbl:=Kt (b:=yU d (f+rD o)) (by omega)
 have he:=zRF h ((f+rD o:Nat):Int) (by omega)
 unfold uX
 rw [zM (by rw [hs.gen]; simpa using hg),hoth,AA,XO,AA]
 unfold zK
 rw [AA,AA,AA,hfo,hoff,hgen,Yc h _ _ (by omega),AA,Yp h hd hk]
 -- the first stage
 obtain ⟨r1,hr1⟩:∃ r1,(if sV (yU d (f+rD o)) then (d,0) else tU d ((f+rD o:Nat):Int))=r1:=⟨_,rfl⟩
 have ok1:FQ r1.1∧r1.1.size=d.size∧r1.1.AY.length=d.AY.length∧r1.1.bytes.length=d.bytes.length∧r1.1.BU=d.BU:=by
  rw [←hr1]
  split
  ·exact ⟨h,O,O,O,O⟩
  ·exact zIR h _
 refine zE (a:=(r1.2,r1.1)) ?_ ?_
 ·rw [zS (by rfl),hbl,AA,AA,←hr1]
  cases sV (yU d (f+rD o))
  ·simp only [Bool.not_false,cond_true,XO,AA,he]
   rfl
  ·rfl
 simp only
 -- the generation
 obtain ⟨r2,hr2⟩:∃ r2,(oI r1 fun d1=>zO d1 (((f+rD o)*d.size.toNat:Nat):Int) (bZ (o.gen+1)))=r2:=⟨_,rfl⟩
 have ok2:FQ r2.1∧r2.1.size=d.size∧r2.1.AY.length=d.AY.length∧r2.1.bytes.length=d.bytes.length∧r2.1.BU=d.BU:=by
  rw [←hr2]
  exact zOs ok1 fun e a b c g t=>zNK a b c g t (Yr _) _
 refine zE (a:=(r2.2,r2.1)) ?_ ?_
 ·rw [←hr2]
  unfold oI
  by_cases h0:r1.2=0
  ·rw [zS (by simpa using h0),if_pos h0,AA]
   have:=gU ok1.1 (Yr (o.gen+1)) (((f+rD o)*d.size.toNat:Nat):Int) (by omega)
   unfold bZ at this
   rw [this,AA]
   rfl
  ·rw [zM (by simpa using h0),if_neg h0]
 simp only
 -- the settings
 obtain ⟨r3,hr3⟩:∃ r3,(oI r2 fun d2=>if N= [] then (d2,0) else zO d2 ((((f+rD o)*d.size.toNat:Nat):Int)+5) (wI N))=r3:=⟨_,rfl⟩
 have ok3:FQ r3.1∧r3.1.size=d.size∧r3.1.AY.length=d.AY.length∧r3.1.bytes.length=d.bytes.length∧r3.1.BU=d.BU:=by
  rw [←hr3]
  refine zOs ok2 fun e a b c g t=>?_
  split
  ·exact ⟨a,b,c,g,t⟩
  ·exact zNK a b c g t (jK hK.len hK.ok) _
 have hmo:oG o d f N=oI r3 fun d3=>zO d3 ((((f+rD o)*d.size.toNat:Nat):Int)+4) [0]:=by
  unfold oG
  simp only
  rw [hr1,hr2,hr3]
 have hlen:(((some m:Option pS).getD []).length:Int)=(N.length:Int):=by
  show (m.length:Int)=_
  rw [←hN,qx]
 refine zE (a:=(if r2.2=0∧N≠ [] then 5+((wI N).length:Int) else 5,r3.2,r3.1)) ?_ ?_
 ·rw [←hr3,hlen]
  unfold oI
  by_cases h0:r2.2=0
  ·rw [zS (by simpa using h0),AA,if_pos h0]
   dsimp only
   by_cases hne:N= []
   ·rw [if_pos hne,zM (by rw [hne]; rfl),if_neg (by rw [hne]; simp)]
    rw [h0]
   ·have hpos:0<N.length:=List.length_pos_iff.2 hne
    have hel:=Ld hK.len hK.ok
    have hso:wS (some m)=some N:=by
     rw [zJk hm (by have:=qx m; rw [hN] at this; omega) (fun k v hv=>by have:=(zKZ hN hK k v hv).1; omega),hN]
    rw [if_neg hne,zS (by simp; omega),if_pos ⟨h0,hne⟩,hso,AA,zIV (by have:=hK.len; omega) (fun x hx=>by have:=(hK.ok x hx).len; omega),AA,AA,zC (x:=(((f+rD o)*d.size.toNat:Nat):Int)+5) (by omega) (by rw [hz1]; omega),gU ok2.1 (jK hK.len hK.ok) _ (by omega),AA,zC (by omega) (by omega)]
  ·rw [zM (by simpa using h0),AA,cond_false,if_neg h0,if_neg (fun hh=>h0 hh.1)]
 simp only
 -- the status
 refine zE (a:=((oG o d f N).2,(oG o d f N).1)) ?_ ?_
 ·rw [hmo]
  unfold oI
  by_cases h0:r3.2=0
  ·rw [zS (by simpa using h0),if_pos h0,AA,zC (x:=(((f+rD o)*d.size.toNat:Nat):Int)+4) (by omega) (by rw [hz1]; omega),gU ok3.1 (DK.cons (by decide) DK.nil) _ (by omega),AA]
  ·rw [zM (by simpa using h0),if_neg h0]
 simp only
 by_cases h0:(oG o d f N).2=0
 ·rw [zS (by simpa using h0),if_pos h0]
  have h2:r2.2=0:=by
   by_cases h2:r2.2=0
   ·exact h2
   ·exfalso
    have e3:r3=r2:=by rw [←hr3]; unfold oI; rw [if_neg h2]
    have e4:oG o d f N=r2:=by rw [hmo,e3]; unfold oI; rw [if_neg h2]
    rw [e4] at h0
    exact h2 h0
  unfold Yt
  congr 3
  by_cases hne:N= []
  ·simp [hne]
  ·rw [if_pos ⟨h2,hne⟩,if_neg hne]
 ·rw [zM (by simpa using h0),if_neg h0]
theorem zLr {s s':yD} {f:Nat} {o o':OS} (r:zA × Int) (hs:RJ s f o) (hs':RJ s' f o'):zYT (if r.2=0 then s' else if r.2=10 then Dk else s) f (dR o o' r).1:=by
 unfold dR
 split
 ·exact hs'
 ·split
  ·rfl
  ·exact hs
theorem zPB {s:yD} {f:Nat} {o:OS} {d:zA} {l:List zB} (hs:RJ s f o) (ho:Lc o) (h:FQ d) (hz:1024≤d.size) (hf:f+1<d.AY.length) (hll:l.length≤1000000) (hl:∀ x∈l,0≤x.Key∧x.Key≤255∧DK x.Value) (hsx:(vH o.K l).length≤32→(vH o.K l).length≤jG:=by exact fun h=>Nat.le_trans h (by decide)):
  ∃ s',xT s l d=some (s',(OU o d f l).2)∧zYT s' f (OU o d f l).1:=by
 have hw:=h.AY
 have hsz:=h.size
 have hb:=h.bound
 have hot:=ho.tail
 have hoa:=ho.act
 obtain ⟨m,hm1,hm2,QD⟩:=hs.all
 have XO:iZ s.d=some true:=by rw [hs.d]; rfl
 obtain ⟨z,hzz⟩:∃ z:Nat,d.size=(z:Int):=⟨d.size.toNat,by omega⟩
 have hz1:d.size.toNat=z:=by rw [hzz]; rfl
 unfold xT OU
 rw [hs.ended,cond_false,XO,AA]
 unfold tX
 rw [AA,AA]
 cases hd:d.down
 case true=>exact ⟨Dk,rfl,rfl⟩
 rw [cond_false,zSe hll,AA,if_neg (by decide)]
 by_cases hc:jO l≠0
 ·rw [zS (by simpa using hc),AA,cond_true,if_pos hc]
  exact ⟨s,O,hs⟩
 have hc0:jO l=0:=by omega
 rw [zM (by simpa using hc),AA,if_neg hc]
 by_cases hnil:l= []
 ·rw [zS (by rw [hnil]; rfl),if_pos hnil,hc0]
  exact ⟨s,O,hs⟩
 have hpos:0<l.length:=List.length_pos_iff.2 hnil
 have hco:=La hc0
 have KF:∀ x∈l,OE x:=fun x hx=>⟨⟨(hl x hx).1,(hl x hx).2.1⟩,(hco.2 x hx).1,(hl x hx).2.2,(hco.2 x hx).2⟩
 rw [zM (by simp; omega),if_neg hnil,hm1,zLd m l hll (fun x hx=>by have:=(hco.2 x hx).1; omega),AA]
 have hla:(((some (OD m l):Option pS).getD []).length:Int)=((vH o.K l).length:Int):=by
  show ((OD m l).length:Int)=_
  rw [zLY hm2,QD]
 have hta:toL (OD m l)=vH o.K l:=by rw [Kw hm2,QD]
 rw [hla]
 by_cases h32:(vH o.K l).length>32
 ·rw [zS (by simp; omega),if_pos h32]
  exact ⟨s,O,hs⟩
 rw [zM (by simp; omega),if_neg h32]
 have Dn:JZ (vH o.K l):=ho.K.all KF (by omega)
 have hel:=Ld hco.1 KF
 have her:=jK hco.1 KF
 rw [zIV (by omega) (fun x hx=>by have:=(hco.2 x hx).1; omega),AA]
 have hcond:((bif decide (s.active≥0) then (bif s.clean then (bnd (some true) fun b2=>bnd (zK d) fun r5=>some (decide (((wI l).length:Int)≤(wrap .i64 (r5 - s.tail))))) else (some false)) else (some false):Option Bool))=some (decide (0≤o.act∧o.clean=true∧((wI l).length:Int)≤d.size - o.tail)):=by
  rw [hs.act,hs.clean,hs.tail,AA]
  unfold zK
  rw [AA,zC (by omega) (by omega)]
  by_cases ha:0≤o.act
  ·rw [zS (by simpa using ha)]
   cases hcl:o.clean
   ·rw [cond_false]
    congr 1
    simp
   ·rw [cond_true]
    congr 1
    rw [decide_eq_decide]
    simp [ha]
  ·rw [zM (by simpa using ha)]
   congr 1
   simp [ha]
 rw [hcond,AA]
 by_cases hap:0≤o.act∧o.clean=true∧((wI l).length:Int)≤d.size - o.tail
 ·rw [decide_eq_true hap,cond_true,if_pos hap,AA]
  unfold zK
  rw [AA,hs.first,hs.act,hs.tail]
  have hfa:f+o.act.toNat<d.AY.length:=by omega
  have hle:=tP h hfa
  rw [hz1] at hle
  have e1:wrap .i64 ((f:Int)+o.act)=((f+o.act.toNat:Nat):Int):=by rw [zC (by omega) (by omega)]; omega
  have e2:wrap .i64 (((f+o.act.toNat:Nat):Int)*d.size)=(((f+o.act.toNat)*d.size.toNat:Nat):Int):=by
   rw [hz1,hzz]
   have:(((f+o.act.toNat:Nat):Int)*(z:Int))=(((f+o.act.toNat)*z:Nat):Int):=by simp
   rw [this,xO (by omega)]
  rw [e1,e2,zC (x:=(((f+o.act.toNat)*d.size.toNat:Nat):Int)+o.tail) (by omega) (by rw [hz1]; omega),gU h her _ (by omega),AA]
  obtain ⟨r,hr⟩:∃ r,zO d ((((f+o.act.toNat)*d.size.toNat:Nat):Int)+o.tail) (wI l)=r:=⟨_,rfl⟩
  rw [hr]
  have hs':RJ (⟨s.d,(f:Int),o.act,s.generation,some (OD m l),o.tail+((wI l).length:Int),s.clean,s.ended⟩:yD) f ⟨o.act,o.gen,vH o.K l,o.tail+((wI l).length:Int),o.clean⟩:=⟨hs.d,O,O,hs.gen,⟨_,O,qy hm2,hta⟩,O,hs.clean,hs.ended⟩
  refine ⟨_,?_,zLr r hs hs'⟩
  unfold dR
  by_cases h0:r.2=0
  ·rw [zS (by simpa using h0),zM (by rw [h0]; rfl),if_pos h0,if_pos h0,zC (by omega) (by omega)]
   rw [h0,hs.ended]
  ·rw [zM (by simpa using h0),if_neg h0,if_neg h0]
   by_cases h10:r.2=10
   ·rw [zS (by simpa using h10),if_pos h10,if_pos h10,h10]
    rfl
   ·rw [zM (by simpa using h10),if_neg h10,if_neg h10]
 ·rw [decide_eq_false hap,cond_false,if_neg hap]
  by_cases hg:o.gen=2147483648
  ·rw [if_pos hg]
   unfold uX
   rw [zS (by rw [hs.gen]; simpa using hg),AA]
   simp only
   rw [zM (by decide)]
   exact ⟨s,O,hs⟩
  ·rw [if_neg hg,zUV hs ho hg h hd hz hf (qy hm2) hta Dn (hsx Dn.len),AA]
   obtain ⟨r,hr⟩:∃ r,oG o d f (vH o.K l)=r:=⟨_,rfl⟩
   rw [hr]
   have hs':RJ (Yt s o (OD m l) (vH o.K l)) f (Dj o (vH o.K l)):=⟨hs.d,hs.first,O,O,⟨_,O,qy hm2,hta⟩,O,O,hs.ended⟩
   refine ⟨_,?_,zLr r hs hs'⟩
   unfold dR
   simp only
   by_cases h0:r.2=0
   ·rw [zM (by rw [h0]; rfl),if_pos h0,if_pos h0,if_pos h0,h0]
   ·rw [if_neg h0,if_neg h0,if_neg h0]
    by_cases h10:r.2=10
    ·rw [zS (by simpa using h10),if_pos h10,if_pos h10,h10]
     rfl
    ·rw [zM (by simpa using h10),if_neg h10,if_neg h10]
def spl (l:List Int) (i:Nat) (w:List Int):List Int:=l.take i++w++l.drop (i+w.length)
theorem eE {l:List Int} {i:Nat} {w:List Int} (h:i+w.length≤l.length):(spl l i w).length=l.length:=by
 simp only [spl,List.length_append,List.length_take,List.length_drop]
 omega
theorem sZ {l:List Int} {i:Nat} {w:List Int} (h:i+w.length≤l.length) (j:Nat):(spl l i w)[j]? =if j<i then l[j]? else if j<i+w.length then w[j - i]? else l[j]?:=by
 unfold spl
 have h1:(l.take i).length=i:=by rw [List.length_take]; omega
 by_cases c1:j<i
 ·rw [if_pos c1,List.append_assoc,List.getElem?_append_left (by omega),List.getElem?_take,if_pos c1]
 ·rw [if_neg c1,List.append_assoc,List.getElem?_append_right (by omega),h1]
  by_cases c2:j<i+w.length
  ·rw [if_pos c2,List.getElem?_append_left (by omega)]
  ·rw [if_neg c2,List.getElem?_append_right (by omega),List.getElem?_drop]
   congr 1
   omega
theorem zOM (l:List Int) (i:Nat):spl l i []=l:=by simp [spl]
theorem zUU {l:List Int} {i:Nat} (h:i<l.length) (x:Int):l.set i x=spl l i [x]:=by
 apply List.ext_getElem?
 intro j
 rw [sZ (by simp; omega),List.getElem?_set]
 by_cases c:i=j
 ·subst c
  rw [if_pos O,if_pos h,if_neg (by omega),if_pos (by simp)]
  simp
 ·rw [if_neg c]
  by_cases c1:j<i
  ·rw [if_pos c1]
  ·rw [if_neg c1,if_neg (by simp; omega)]
theorem zMt {l:List Int} {i:Nat} {w:List Int} (x:Int) (h:i+1+w.length≤l.length):spl (l.set i x) (i+1) w=spl l i (x::w):=by
 apply List.ext_getElem?
 intro j
 rw [sZ (by simp; omega),sZ (by simp; omega),List.getElem?_set]
 simp only [List.length_cons]
 by_cases c1:j<i
 ·rw [if_pos (by omega),if_neg (by omega),if_pos c1]
 ·rw [if_neg c1]
  by_cases c2:i=j
  ·subst c2
   rw [if_pos (by omega),if_pos O,if_pos (by omega),if_pos (by omega),Nat.sub_self]
   rfl
  ·rw [if_neg (by omega)]
   by_cases c3:j<i+1+w.length
   ·rw [if_pos c3,if_pos (by omega),show j - i=(j - (i+1))+1 by omega,List.getElem?_cons_succ]
   ·rw [if_neg c3,if_neg c2,if_neg (by omega)]
def Dp (l:List Int) (i n:Nat):Prop:=∀ j,i≤j→j<i+n→l[j]? =some 255
theorem zGw:∀ (b:List Int) (d:zA) (i:Nat),FQ d→d.down=false→DK b→i+b.length≤d.bytes.length→Dp d.bytes i b.length→
  ((qY d i b).2=0∧(qY d i b).1.bytes=spl d.bytes i b∧(qY d i b).1.down=false)∨
  ((qY d i b).2=10∧(qY d i b).1.down=true∧∃ k,k<b.length∧(qY d i b).1.bytes=spl d.bytes i (b.take k++ [CZ .u8 (b.getD k 0) d.BU]))
 | [],d,i,h,hd,_,_,_=>.inl ⟨O,(zOM _ _).symm,hd⟩
 | x::b,d,i,h,hd,hr,hl,he=>by
  have hx:=hr x (by simp)
  simp only [List.length_cons] at hl he
  have Yu:d.bytes.getD i 0=255:=by
   rw [List.getD_eq_getElem?_getD,he i (Nat.le_refl _) (by omega)]
   rfl
  unfold qY
  rw [Yu]
  by_cases hf:(xK d).2=true
  ·rw [if_pos hf]
   right
   refine ⟨O,?_,0,by simp,?_⟩
   ·show (xK d).1.down=true
    rw [Xz hd,hf]
   ·show (xK d).1.bytes.set i _=_
    rw [wZ,zTm (Cj hx h.BU),zUU (by omega)]
    rfl
  ·rw [if_neg hf,zTm hx]
   have hf':(xK d).2=false:=by simpa using hf
   have hb1:(PL (xK d).1 i x).bytes=d.bytes.set i x:=by show (xK d).1.bytes.set i x=_; rw [wZ]
   have ht1:(PL (xK d).1 i x).BU=d.BU:=oM d
   have ih:=zGw b (PL (xK d).1 i x) (i+1) (Jy (dU h) i hx) (by show (xK d).1.down=false; rw [Xz hd,hf']) (fun y hy=>hr y (by simp [hy])) (by rw [hb1]; simp; omega) (fun j h1 h2=>by
    rw [hb1,List.getElem?_set,if_neg (by omega)]
    exact he j (by omega) (by omega))
   rw [hb1,ht1] at ih
   rcases ih with ⟨h1,h2,h3⟩ | ⟨h1,h2,k,hk,h3⟩
   ·exact .inl ⟨h1,by rw [h2,zMt x (by omega)],h3⟩
   ·refine .inr ⟨h1,h2,k+1,by simp; omega,?_⟩
    rw [h3,zMt x (by simp; omega)]
    rfl
theorem zBF {b:List Int} {d:zA} {i:Nat} (h:FQ d) (hd:d.down=false) (hr:DK b) (hl:i+b.length≤d.bytes.length) (he:Dp d.bytes i b.length):
  ((zO d (i:Int) b).2=0∧(zO d (i:Int) b).1.bytes=spl d.bytes i b∧(zO d (i:Int) b).1.down=false)∨
  ((zO d (i:Int) b).2=10∧(zO d (i:Int) b).1.down=true∧∃ k,k<b.length∧(zO d (i:Int) b).1.bytes=spl d.bytes i (b.take k++ [CZ .u8 (b.getD k 0) d.BU])):=by
 unfold zO
 rw [if_neg (by simp [hd]),if_pos ⟨by omega,by omega,by omega,by omega⟩]
 exact zGw b d i h hd hr hl he
theorem zSi {b:List Int} {x:zB} {n:Nat} (hr:DK b) (h:SV b=some (x,n)) (q:List Int):SV (b.take n++q)=some (x,n):=by
 match b,h with
 | k::c::r,h=>
  have hc:=hr c (by simp)
  rw [kR] at h
  split at h
  ·rename_i h1
   injection h with h; injection h with h0 h3; subst h0; subst h3
   show SV (k::c::([]++q))=_
   rw [kR,if_pos h1]
  ·rename_i h1
   split at h
   ·cases h
   ·rename_i h2
    injection h with h; injection h with h0 h3; subst h0; subst h3
    have e:(k::c::r).take (2+c.toNat)++q=k::c::(r.take c.toNat++q):=by
     rw [Nat.add_comm]; rfl
    have hl:(r.take c.toNat).length=c.toNat:=by rw [List.length_take]; omega
    rw [e,kR,if_neg h1,if_neg (by rw [List.length_append,hl]; omega),List.take_append_of_le_length (by omega),List.take_of_length_le (by omega)]
theorem Yv {b:List Int} (n m:Nat):b.take (n+m)=b.take n++(b.drop n).take m:=by rw [List.take_add]
theorem zJh:∀ (c:Nat) {b:List Int} {l:List zB} {n:Nat},DK b→lJ c b=some (l,n)→∀ q,lJ c (b.take n++q)=some (l,n)
 | 0,b,l,n,_,h,q=>by injection h with h; injection h with h1 h2; subst h1; subst h2; rfl
 | c+1,b,l,n,hr,h,q=>by
  unfold lJ at h
  split at h
  ·cases h
  ·rename_i x k hk
   split at h
   ·cases h
   ·rename_i l' m hm
    injection h with h; injection h with h1 h2
    subst h1; subst h2
    have hk2:=Kr hr hk
    have h3:=zSi hr hk ((b.drop k).take m++q)
    have h4:=zJh c (hr.drop k) hm q
    unfold lJ
    rw [Yv,List.append_assoc,h3]
    have e:(b.take k++((b.drop k).take m++q)).drop k=(b.drop k).take m++q:=by
     rw [List.drop_append_of_le_length (by rw [List.length_take]; omega),List.drop_eq_nil_of_le (by rw [List.length_take]; omega)]
     rfl
    simp only
    rw [e,h4]
theorem zGp {b:List Int} {l:List zB} {n:Nat} (hr:DK b) (h:rW b=some (l,n)) (q:List Int):rW (b.take n++q)=some (l,n):=by
  match b,h with
  | c::r,h=>
    have hr':DK r:=fun y hy=>hr y (by simp [hy])
    rw [pH] at h
    split at h
    · cases h
    · rename_i h1
      split at h
      · cases h
      · rename_i l' m hm
        split at h
        · rename_i h0
          injection h with h; injection h with h2 h3
          subst h2; subst h3
          have hml:=(List.getElem?_eq_some_iff.1 h0).1
          have e:(c::r).take (m+2)++q=c::(r.take m++((r.drop m).take 1++q)):=by
            show c::(r.take (m+1)++q)=_
            rw [Yv,List.append_assoc]
          rw [e,pH,if_neg h1,zJh _ hr' hm]
          simp only
          have hl:(r.take m).length=m:=by rw [List.length_take]; omega
          rw [if_pos]
          rw [List.getElem?_append_right (by omega),hl,Nat.sub_self]
          have:(r.drop m).take 1= [r[m]]:=by
            rw [←List.getElem_cons_drop (h:=hml)]
            rfl
          rw [this]
          rw [List.getElem?_eq_getElem hml] at h0
          exact h0
        · cases h
theorem zSJ {x:zB} (h:OE x) (q:List Int):SV (eQ x++q)=some (x,(eQ x).length):=by
 obtain ⟨k,v,dl⟩:=x
 have hl:=h.len
 simp only at hl
 unfold eQ
 cases dl
 ·have hw:wrap .u8 (v.length:Int)=(v.length:Int):=oC (by omega) (by omega)
  rw [if_neg (by simp)]
  show SV (k::wrap .u8 (v.length:Int)::(v++q))=_
  rw [kR,hw,if_neg (by omega),if_neg (by rw [List.length_append]; omega)]
  have e:((v.length:Int)).toNat=v.length:=rfl
  rw [e,List.take_left]
  congr 2
  simp
  omega
 ·have hv:v= []:=h.del O
  subst hv
  rfl
theorem zId:∀ {l:List zB},(∀ x∈l,OE x)→∀ q,lJ l.length (l.flatMap eQ++q)=some (l,(l.flatMap eQ).length)
 | [],_,_=>rfl
 | x::l,h,q=>by
  have h1:=zSJ (h x (by simp)) (l.flatMap eQ++q)
  have h2:=zId (l:=l) (fun y hy=>h y (by simp [hy])) q
  show lJ (l.length+1) _=_
  unfold lJ
  rw [List.flatMap_cons,List.append_assoc,h1]
  simp only
  rw [List.drop_left,h2]
  simp
theorem Yw {l:List zB} (h1:1≤l.length) (h2:l.length≤32) (h:∀ x∈l,OE x) (q:List Int):rW (wI l++q)=some (l,(wI l).length):=by
 have hw:wrap .u8 (l.length:Int)=(l.length:Int):=oC (by omega) (by omega)
 have e:wI l++q=(l.length:Int)::(l.flatMap eQ++(0::q)):=by
  unfold wI
  rw [hw]
  simp
 have e2:((l.length:Int)).toNat=l.length:=rfl
 rw [e,pH,if_neg (by omega),e2,zId h]
 simp only
 rw [if_pos (by rw [List.getElem?_append_right (Nat.le_refl _),Nat.sub_self]; rfl)]
 unfold wI
 simp
theorem Yx (j:Nat):rW (List.replicate j 255)=none:=by
 cases j with
 | zero=>rfl
 | succ j=>
  rw [List.replicate_succ,pH,if_pos (.inr (by decide))]
theorem zLs {b:List Int} {l:List zB} {n:Nat} (hr:DK b) (h:rW b=some (l,n)):b[n - 1]? =some 0:=by
 have hn:=oS hr h
 match b,h with
 | c::r,h=>
  rw [pH] at h
  split at h
  ·cases h
  ·split at h
   ·cases h
   ·rename_i l' m hm
    split at h
    ·rename_i h0
     injection h with h; injection h with h2 h3
     subst h3
     exact h0
    ·cases h
theorem zLo {l:List zB} (h1:1≤l.length) (h2:l.length≤32) (h:∀ x∈l,OE x) {k j:Nat} {t:Int} (ht:0≤t∧t≤255) (hk:k<(wI l).length) (hne:k+1<(wI l).length∨t≠0):
  rW ((wI l).take k++ [CZ .u8 ((wI l).getD k 0) t]++List.replicate j 255)=none:=by
 have her:=jK h2 h
 have hgr:=her.get k
 have Yy:=Cj hgr ht
 have htl:((wI l).take k).length=k:=by rw [List.length_take]; omega
 have je:DK ((wI l).take k++ [CZ .u8 ((wI l).getD k 0) t]++List.replicate j 255):=((her.take k).app (DK.cons Yy DK.nil)).app (DK.rep (by decide))
 cases hb:rW ((wI l).take k++ [CZ .u8 ((wI l).getD k 0) t]++List.replicate j 255) with
 | none=>rfl
 | some p=>
  exfalso
  obtain ⟨l',n⟩:=p
  have hn:=oS je hb
  have hz:=zLs je hb
  have key:∀ w:List Int,((wI l).take k++ [CZ .u8 ((wI l).getD k 0) t]++List.replicate j 255).take n=(wI l).take n→False:=fun w hw=>by
   have:=zGp je hb ((wI l).drop n)
   rw [hw,List.take_append_drop] at this
   have h3:=Yw h1 h2 h []
   rw [List.append_nil,this] at h3
   injection h3 with h3; injection h3 with _ h3
   -- the whole aCw would have been read
   have h4:n≤k+1:=by
    rcases Nat.lt_or_ge (n - 1) (k+1) with hlt | hge
    ·omega
    ·exfalso
     rw [List.getElem?_append_right (by simp; omega),List.getElem?_replicate] at hz
     split at hz
     ·injection hz with hz
      cases hz
     ·cases hz
   have h5:k+1=(wI l).length:=by omega
   rcases hne with hne | hne
   ·omega
   ·have h6:n - 1=k:=by omega
    rw [h6,List.append_assoc,List.getElem?_append_right (by omega),htl,Nat.sub_self] at hz
    injection hz with hz
    exact hne ((or_zero hgr ht).1 hz).2
  rcases Nat.lt_or_ge (n - 1) k with hlt | hge
  ·refine key [] ?_
   rw [List.append_assoc,List.take_append_of_le_length (by omega),List.take_take,Nat.min_eq_left (by omega)]
  ·rcases Nat.lt_or_ge k (n - 1) with hlt2 | aKm
   ·rw [List.getElem?_append_right (by simp; omega),List.getElem?_replicate] at hz
    split at hz
    ·injection hz with hz
     cases hz
    ·cases hz
   ·have h6:n - 1=k:=by omega
    rw [h6,List.append_assoc,List.getElem?_append_right (by omega),htl,Nat.sub_self] at hz
    injection hz with hz
    have hoz:=(or_zero hgr ht).1 hz
    refine key [] ?_
    have h7:n=k+1:=by omega
    have e1:(wI l)[k]? =some 0:=by
     have:=hoz.1
     rw [List.getD_eq_getElem?_getD,List.getElem?_eq_getElem hk] at this
     rw [List.getElem?_eq_getElem hk]
     exact congrArg some this
    have e2:(wI l)[k]=0:=by
     rw [List.getElem?_eq_getElem hk] at e1
     injection e1
    rw [h7,zV hk,e2,hz,List.take_append_of_le_length (by simp; omega),List.take_of_length_le (by simp; omega)]
theorem zPl:∀ (f:Nat) {b:List Int} (K:List zB) (t:Nat),b.length≤f→DK b→∀ q,DK q→qU (b.take ((qU b K t).2 - t)++q) K t=qU q (qU b K t).1 (qU b K t).2:=by
 intro f
 induction f with
 | zero=>
  intro b K t hf hr q hq
  have:b= []:=List.eq_nil_of_length_eq_zero (by omega)
  subst this
  have e:qU [] K t=(K,t):=rfl
  rw [e]
  simp
 | succ f ih=>
  intro b K t hf hr q hq
  rw [jQ hr]
  cases hb:rW b with
  | none=>simp
  | some p=>
   obtain ⟨l,n⟩:=p
   have hn:=oS hr hb
   simp only
   split
   ·simp
   ·rename_i h32
    have ih:=ih (vH K l) (t+n) (b:=b.drop n) (by simp; omega) (hr.drop n) q hq
    have hge:t+n≤(qU (b.drop n) (vH K l) (t+n)).2:=by
     have:∀ (f:Nat) (b:List Int) (K:List zB) (t:Nat),t≤(gK f b K t).2:=by
      intro f
      induction f with
      | zero=>intro b K t; exact Nat.le_refl _
      | succ f ih=>
       intro b K t
       unfold gK
       cases rW b with
       | none=>exact Nat.le_refl _
       | some p=>
        obtain ⟨l,n⟩:=p
        simp only
        split
        ·exact Nat.le_refl _
        ·have:=ih (b.drop n) (vH K l) (t+n)
         omega
     exact this _ _ _ _
    obtain ⟨m,hm⟩:∃ m,(qU (b.drop n) (vH K l) (t+n)).2=t+n+m:=⟨(qU (b.drop n) (vH K l) (t+n)).2 - (t+n),by omega⟩
    rw [hm] at ih ⊢
    have e1:t+n+m - t=n+m:=by omega
    have e2:t+n+m - (t+n)=m:=by omega
    rw [e2] at ih
    rw [e1,Yv,List.append_assoc]
    have hr2:DK (b.take n++((b.drop n).take m++q)):=(hr.take n).app (((hr.drop n).take m).app hq)
    rw [jQ hr2,zGp hr hb]
    simp only
    rw [if_neg h32]
    have e3:(b.take n++((b.drop n).take m++q)).drop n=(b.drop n).take m++q:=by
     rw [List.drop_append_of_le_length (by rw [List.length_take]; omega),List.drop_eq_nil_of_le (by rw [List.length_take]; omega)]
     rfl
    rw [e3]
    exact ih
def OV (b0 b1:List Int):OS:=pick (pick os0 0 b0) 1 b1
theorem jB (d:zA) (f:Nat):BQ d f=OV (yU d f) (yU d (f+1)):=rfl
theorem Dq {b:List Int} {g:Int} {K:List zB} {t:Nat} (h:rH b=some (g,K,t)):1≤g∧g≤2147483648∧g=bP b∧b.getD 4 0=0∧qU (b.drop 5) [] 5=(K,t):=by
 unfold rH at h
 split at h
 ·cases h
 ·rename_i hn
  simp only [not_or,Classical.not_not] at hn
  injection h with h; injection h with h1 h2
  exact ⟨by omega,by omega,h1.symm,by omega,h2⟩
def VE (i:Int) (b:List Int) (g:Int) (K:List zB) (t:Nat):OS:=⟨i,g,K,(t:Int),sV (b.drop t)⟩
theorem rf {b0 b1:List Int} {g:Int} {K:List zB} {t:Nat} (h0:rH b0=some (g,K,t)) (h1:∀ p,rH b1=some p→p.1≤g):OV b0 b1=VE 0 b0 g K t:=by
 have hg:=(Dq h0).1
 have e:pick os0 0 b0=VE 0 b0 g K t:=by
  unfold pick
  rw [h0]
  exact if_pos (show g>(0:Int) by omega)
 unfold OV
 rw [e]
 unfold pick
 cases hb:rH b1 with
 | none=>rfl
 | some p=>
  obtain ⟨g',K',t'⟩:=p
  have:=h1 _ hb
  exact if_neg (show ¬ g'>g by simp only at this; omega)
theorem Dt {b0 b1:List Int} {g:Int} {K:List zB} {t:Nat} (h1:rH b1=some (g,K,t)) (h0:∀ p,rH b0=some p→p.1<g):OV b0 b1=VE 1 b1 g K t:=by
 have hg:=(Dq h1).1
 have e:(pick os0 0 b0).gen<g:=by
  unfold pick
  cases hb:rH b0 with
  | none=>show (0:Int)<g; omega
  | some p=>
   obtain ⟨g',K',t'⟩:=p
   have:=h0 _ hb
   simp only at this ⊢
   split
   ·exact this
   ·show (0:Int)<g; omega
 unfold OV
 rw [show pick (pick os0 0 b0) 1 b1=if g>(pick os0 0 b0).gen then VE 1 b1 g K t else pick os0 0 b0 by
  conv=>lhs; unfold pick
  rw [h1]
  rfl]
 exact if_pos e
theorem Yz {b0 b1:List Int} (h0:rH b0=none) (h1:rH b1=none):OV b0 b1=os0:=by
 unfold OV pick
 rw [h0,h1]
theorem Le (b0 b1:List Int):(rH b0=none∧rH b1=none∧OV b0 b1=os0)∨
  (∃ g K t,rH b0=some (g,K,t)∧(∀ p,rH b1=some p→p.1≤g)∧OV b0 b1=VE 0 b0 g K t)∨
  ∃ g K t,rH b1=some (g,K,t)∧(∀ p,rH b0=some p→p.1<g)∧OV b0 b1=VE 1 b1 g K t:=by
 cases h0:rH b0 with
 | none=>
  cases h1:rH b1 with
  | none=>exact .inl ⟨O,O,Yz h0 h1⟩
  | some p=>
   obtain ⟨g,K,t⟩:=p
   exact .inr (.inr ⟨g,K,t,O,fun p hp=>(by cases hp),Dt h1 fun p hp=>by rw [h0] at hp; cases hp⟩)
 | some p0=>
  obtain ⟨g0,K0,t0⟩:=p0
  cases h1:rH b1 with
  | none=>exact .inr (.inl ⟨g0,K0,t0,O,fun p hp=>(by cases hp),rf h0 fun p hp=>by rw [h1] at hp; cases hp⟩)
  | some p=>
   obtain ⟨g,K,t⟩:=p
   by_cases hg:g>g0
   ·refine .inr (.inr ⟨g,K,t,O,fun p hp=>?_,Dt h1 fun p hp=>?_⟩)
    ·injection hp with hp; subst hp; exact hg
    ·rw [h0] at hp; injection hp with hp; subst hp; exact hg
   ·refine .inr (.inl ⟨g0,K0,t0,O,fun p hp=>?_,rf h0 fun p hp=>?_⟩)
    ·injection hp with hp; subst hp; show g≤g0; omega
    ·rw [h1] at hp; injection hp with hp; subst hp; show g≤g0; omega
theorem zSz {b:List Int} (hr:DK b):5≤(qU (b.drop 5) [] 5).2∧(qU (b.drop 5) [] 5).2≤5+(b.drop 5).length:=(Df 5 (hr.drop 5) JZ.nil).2
theorem zTV {b0 b1:List Int} (h0:DK b0) (h1:DK b1) (hl0:64≤b0.length∧b0.length≤1024) (hl1:64≤b1.length∧b1.length≤1024):Lc (OV b0 b1):=by
 rcases Le b0 b1 with ⟨_,_,e⟩ | ⟨g,K,t,h,_,e⟩ | ⟨g,K,t,h,_,e⟩
 ·rw [e]
  exact ⟨JZ.nil,by decide,by decide,by decide⟩
 ·obtain ⟨g1,g2,_,_,g5⟩:=Dq h
  have hk:=Df 5 (h0.drop 5) JZ.nil
  rw [g5] at hk
  simp only [List.length_drop] at hk
  rw [e]
  refine ⟨hk.1,by show -1≤(0:Int)∧(0:Int)≤1; decide,?_,?_⟩
  ·show 0≤(t:Int)∧(t:Int)≤16384
   omega
  ·show 0≤g∧g≤2147483648
   omega
 ·obtain ⟨g1,g2,_,_,g5⟩:=Dq h
  have hk:=Df 5 (h1.drop 5) JZ.nil
  rw [g5] at hk
  simp only [List.length_drop] at hk
  rw [e]
  refine ⟨hk.1,by show -1≤(1:Int)∧(1:Int)≤1; decide,?_,?_⟩
  ·show 0≤(t:Int)∧(t:Int)≤16384
   omega
  ·show 0≤g∧g≤2147483648
   omega
theorem Du {l:List Int} {i:Nat} {w:List Int} (h:i+w.length≤l.length) {j:Nat} (hj:j<i):(spl l i w).getD j 0=l.getD j 0:=by
 rw [List.getD_eq_getElem?_getD,List.getD_eq_getElem?_getD,sZ h,if_pos hj]
theorem zUQ {l:List Int} {i:Nat} {w:List Int} (h:i+w.length≤l.length) (hi:4≤i):bP (spl l i w)=bP l:=by
 unfold bP
 rw [Du h (by omega),Du h (by omega),Du h (by omega),Du h (by omega)]
theorem zRW {l:List Int} {i:Nat} {w:List Int} (h:i+w.length≤l.length) (hi:5≤i):(spl l i w).drop 5=(l.drop 5).take (i - 5)++(w++l.drop (i+w.length)):=by
 unfold spl
 rw [List.append_assoc,List.drop_append_of_le_length (by rw [List.length_take]; omega),List.drop_take]
theorem zPf {l:List Int} {i:Nat} {w:List Int} (h:i+w.length≤l.length):(spl l i w).drop i=w++l.drop (i+w.length):=by
 unfold spl
 rw [List.append_assoc,List.drop_append_of_le_length (by rw [List.length_take]; omega),List.drop_eq_nil_of_le (by rw [List.length_take]; omega)]
 rfl
theorem zPe {l:List Int} {i:Nat} {w:List Int} (h:i+w.length≤l.length):(spl l i w).drop (i+w.length)=l.drop (i+w.length):=by
 have:=zPf h
 rw [←List.drop_drop,this,List.drop_left]
theorem aL {b:List Int} {t:Nat} (h:sV (b.drop t)=true) (k:Nat):b.drop (t+k)=List.replicate (b.length - (t+k)) 255:=by
 have:=gZ.1 h
 rw [←List.drop_drop,this,List.drop_replicate]
 congr 1
 simp
 omega
theorem zLc {b:List Int} {g:Int} {K:List zB} {t:Nat} (hr:DK b) (h:rH b=some (g,K,t)) {w:List Int} (hw:DK w) (hl:t+w.length≤b.length):
  rH (spl b t w)=some (g,qU (w++b.drop (t+w.length)) K t):=by
 obtain ⟨g1,g2,g3,g4,g5⟩:=Dq h
 have ht:=zSz hr
 rw [g5] at ht
 simp only at ht
 unfold rH
 rw [zUQ hl (by omega),←g3,Du hl (by omega),g4,if_neg (by simp only [not_or]; exact ⟨by simp,by omega,by omega⟩),zRW hl (by omega)]
 have:=zPl (b.drop 5).length [] 5 (Nat.le_refl _) (hr.drop 5) (w++b.drop (t+w.length)) (hw.app (hr.drop _))
 rw [g5] at this
 rw [this]
theorem zJc {b:List Int} {g:Int} {K:List zB} {t:Nat} (hr:DK b) (h:rH b=some (g,K,t)) (hbl:sV (b.drop t)=true) {l:List zB} (h1:1≤l.length) (h2:l.length≤32) (hc:∀ x∈l,OE x) (hn:(vH K l).length≤32) (hl:t+(wI l).length≤b.length):
  rH (spl b t (wI l))=some (g,vH K l,t+(wI l).length):=by
 have her:=jK h2 hc
 rw [zLc hr h her hl,aL hbl,jQ (her.app (DK.rep (by decide))),Yw h1 h2 hc]
 simp only
 rw [if_neg (by omega),List.drop_left,jQ (DK.rep (by decide)),Yx]
theorem zPm {b:List Int} {g:Int} {K:List zB} {t:Nat} (hr:DK b) (h:rH b=some (g,K,t)) (hbl:sV (b.drop t)=true) {l:List zB} (h1:1≤l.length) (h2:l.length≤32) (hc:∀ x∈l,OE x) (hn:(vH K l).length≤32) (hl:t+(wI l).length≤b.length)
  {k:Nat} {tn:Int} (htn:0≤tn∧tn≤255) (hk:k<(wI l).length):
  rH (spl b t ((wI l).take k++ [CZ .u8 ((wI l).getD k 0) tn]))=some (g,K,t)∨rH (spl b t ((wI l).take k++ [CZ .u8 ((wI l).getD k 0) tn]))=some (g,vH K l,t+(wI l).length):=by
 have her:=jK h2 hc
 have Yy:=Cj (her.get k) htn
 have hwr:DK ((wI l).take k++ [CZ .u8 ((wI l).getD k 0) tn]):=(her.take k).app (DK.cons Yy DK.nil)
 have hwl:((wI l).take k++ [CZ .u8 ((wI l).getD k 0) tn]).length=k+1:=by simp; omega
 by_cases hne:k+1<(wI l).length∨tn≠0
 ·left
  rw [zLc hr h hwr (by omega),aL hbl,jQ (hwr.app (DK.rep (by decide))),zLo h1 h2 hc htn hk hne]
 ·right
  have h0:tn=0:=by omega
  have hk1:k+1=(wI l).length:=by omega
  have:(wI l).take k++ [CZ .u8 ((wI l).getD k 0) tn]=wI l:=by
   rw [h0,Xy (her.get k),List.getD_eq_getElem?_getD,List.getElem?_eq_getElem hk,Option.getD_some,←zV hk,hk1,List.take_length]
  rw [this]
  exact zJc hr h hbl h1 h2 hc hn hl
theorem dM {d:zA} (k j:Nat):(yU d k)[j]? =if j<d.size.toNat then d.bytes[k*d.size.toNat+j]? else none:=by
 unfold yU
 rw [List.getElem?_take]
 split
 ·rw [List.getElem?_drop]
 ·rfl
theorem zKL {d e:zA} {k k0 t:Nat} {w:List Int} (hz:e.size=d.size) (hb:e.bytes=spl d.bytes (k0*d.size.toNat+t) w) (hw:t+w.length≤d.size.toNat) (hl:k0*d.size.toNat+d.size.toNat≤d.bytes.length) (hk:k*d.size.toNat+d.size.toNat≤d.bytes.length):
  yU e k=if k=k0 then spl (yU d k) t w else yU d k:=by
 have hsl:(yU d k).length=d.size.toNat:=by simp only [yU,List.length_take,List.length_drop]; omega
 apply List.ext_getElem?
 intro j
 rw [dM,hz,hb]
 by_cases hj:j<d.size.toNat
 ·rw [if_pos hj,sZ (by omega)]
  by_cases hkk:k=k0
  ·subst hkk
   rw [if_pos O,sZ (by omega),dM,if_pos hj]
   by_cases c1:j<t
   ·rw [if_pos (by omega),if_pos c1]
   ·rw [if_neg (by omega),if_neg c1]
    by_cases c2:j<t+w.length
    ·rw [if_pos (by omega),if_pos c2]
     congr 1
     omega
    ·rw [if_neg (by omega),if_neg c2]
  ·rw [if_neg hkk,dM,if_pos hj]
   rcases Nat.lt_or_gt_of_ne hkk with hlt | hgt
   ·have:(k+1)*d.size.toNat≤k0*d.size.toNat:=Nat.mul_le_mul_right _ hlt
    rw [Nat.add_mul] at this
    rw [if_pos (by omega)]
   ·have:(k0+1)*d.size.toNat≤k*d.size.toNat:=Nat.mul_le_mul_right _ hgt
    rw [Nat.add_mul] at this
    rw [if_neg (by omega),if_neg (by omega)]
 ·rw [if_neg hj]
  split
  ·rw [List.getElem?_eq_none (by rw [eE (by omega)]; omega)]
  ·rw [List.getElem?_eq_none (by omega)]
theorem zMp {d:zA} {k t n:Nat} (hl:k*d.size.toNat+d.size.toNat≤d.bytes.length) (hb:sV ((yU d k).drop t)=true) (hn:t+n≤d.size.toNat):Dp d.bytes (k*d.size.toNat+t) n:=by
 intro j h1 h2
 have hsl:(yU d k).length=d.size.toNat:=by simp only [yU,List.length_take,List.length_drop]; omega
 have h3:=aL hb 0
 have h4:(yU d k)[j - k*d.size.toNat]? =some 255:=by
  have:(yU d k)[j - k*d.size.toNat]? =((yU d k).drop (t+0))[j - k*d.size.toNat - t]?:=by
   rw [List.getElem?_drop]
   congr 1
   omega
  rw [this,h3,List.getElem?_replicate,if_pos (by omega)]
 rw [dM,if_pos (by omega)] at h4
 rw [←h4]
 congr 1
 omega
theorem zPb {g:Int} (h0:0≤g) (h1:g≤2147483648) (q:List Int):bP (bZ g++q)=g:=by
 obtain ⟨n,rfl⟩:∃ n:Nat,g=(n:Int):=⟨g.toNat,by omega⟩
 have e8:(8:Int)=((8:Nat):Int):=rfl
 have e16:(16:Int)=((16:Nat):Int):=rfl
 have e24:(24:Int)=((24:Nat):Int):=rfl
 have p8:2 ^ 8=256:=rfl
 have p16:2 ^ 16=65536:=rfl
 have Yo:2 ^ 24=16777216:=rfl
 have hb:IntKind.bits .i64=64:=rfl
 unfold bZ
 rw [e8,e16,e24,jC (by omega),jC (by omega),jC (by omega),wT,wT,wT,wT,p8,p16,Yo]
 show ((n % 256:Nat):Int)+256*((n / 256 % 256:Nat):Int)+65536*((n / 65536 % 256:Nat):Int)+16777216*((n / 16777216 % 256:Nat):Int)=(n:Int)
 omega
theorem zNk {b c:List Int} (h:∀ j,j<4→b.getD j 0=c.getD j 0):bP b=bP c:=by
 unfold bP
 rw [h 0 (by omega),h 1 (by omega),h 2 (by omega),h 3 (by omega)]
theorem zRo {z:Nat} (hz:1024≤z) {g:Int} (h0:1≤g) (h1:g≤2147483648) {N:List zB} (hN:JZ N) {b:List Int} (hb:b=spl (spl (spl (List.replicate z 255) 0 (bZ g)) 5 (if N= [] then [] else wI N)) 4 [0]):
  rH b=some (g,N,5+(if N= [] then [] else wI N).length)∧sV (b.drop (5+(if N= [] then [] else wI N).length))=true:=by
 obtain ⟨w,hw⟩:∃ w,(if N= [] then [] else wI N)=w:=⟨_,rfl⟩
 rw [hw] at hb ⊢
 have hel:=Ld hN.len hN.ok
 have hwl:w.length≤962:=by
  rw [←hw]
  split
  ·simp
  ·exact hel.2
 have hwr:DK w:=by
  rw [←hw]
  split
  ·exact DK.nil
  ·exact jK hN.len hN.ok
 have hgl:(bZ g).length=4:=rfl
 have hrl:(List.replicate z (255:Int)).length=z:=by simp
 obtain ⟨b1,hb1⟩:∃ b1,spl (List.replicate z 255) 0 (bZ g)=b1:=⟨_,rfl⟩
 have l1:b1.length=z:=by rw [←hb1,eE (by rw [hgl,hrl]; omega),hrl]
 obtain ⟨b2,hb2⟩:∃ b2,spl b1 5 w=b2:=⟨_,rfl⟩
 have l2:b2.length=z:=by rw [←hb2,eE (by omega),l1]
 rw [hb1,hb2] at hb
 have hlen:b.length=z:=by rw [hb,eE (by simp; omega),l2]
 have hget:∀ j,b[j]? =if j<4 then (bZ g)[j]? else if j=4 then some 0 else if j<5+w.length then w[j - 5]? else if j<z then some 255 else none:=by
  intro j
  rw [hb,sZ (by simp; omega),←hb2,sZ (by omega),←hb1,sZ (by rw [hgl,hrl]; omega),List.getElem?_replicate]
  simp only [List.length_singleton,hgl,Nat.not_lt_zero,if_false,Nat.zero_add,Nat.sub_zero]
  by_cases c1:j<4
  ·simp only [c1,if_true,show j<5 by omega]
  ·by_cases c2:j=4
   ·subst c2; simp
   ·by_cases c3:j<5+w.length
    ·simp only [c1,c2,c3,if_true,if_false,show ¬ j<4+1 by omega,show ¬ j<5 by omega]
    ·simp only [c1,c2,c3,if_true,if_false,show ¬ j<4+1 by omega,show ¬ j<5 by omega]
 have hdrop:b.drop 5=w++List.replicate (z - (5+w.length)) 255:=by
  apply List.ext_getElem?
  intro j
  rw [List.getElem?_drop,hget,if_neg (by omega),if_neg (by omega)]
  by_cases c:j<w.length
  ·rw [if_pos (by omega),List.getElem?_append_left c]
   congr 1
   omega
  ·rw [if_neg (by omega),List.getElem?_append_right (by omega),List.getElem?_replicate]
   by_cases c2:5+j<z
   ·rw [if_pos c2,if_pos (by omega)]
   ·rw [if_neg c2,if_neg (by omega)]
 have h4:b.getD 4 0=0:=by
  rw [List.getD_eq_getElem?_getD,hget,if_neg (by omega),if_pos O]
  rfl
 have hgen:bP b=g:=by
  have:=zPb (q:= []) (show 0≤g by omega) h1
  rw [←this]
  refine zNk fun j hj=>?_
  rw [List.getD_eq_getElem?_getD,List.getD_eq_getElem?_getD,hget,if_pos hj,List.append_nil]
 have hrd:qU (b.drop 5) [] 5=(N,5+w.length):=by
  rw [hdrop,jQ (hwr.app (DK.rep (by decide))),←hw]
  by_cases hne:N= []
  ·rw [if_pos hne,List.nil_append,Yx,hne]
   rfl
  ·rw [if_neg hne]
   have hpos:=List.length_pos_iff.2 hne
   rw [Yw hpos hN.len hN.ok]
   have hall:vH [] N=N:=by
    refine Ku (cV List.Pairwise.nil) hN.TK (Kv fun x h=>(by cases h)) hN.nd fun k=>?_
    rw [Yl]
    have key:∀ (L:List zB) (o:Option (List Int)),Asc L→Nd L→jd L k o=(lS L k).or o:=by
     intro L
     induction L with
     | nil=>intro o _ _; rfl
     | cons x r ih=>
      intro o ha hn
      have hp:=List.pairwise_cons.1 ha
      have hx:=hn x (by simp)
      unfold jd
      rw [List.foldl_cons,uL]
      by_cases hk:k=x.Key
      ·rw [if_pos hk,hx,if_neg (by decide),if_pos hk.symm]
       have:=ih (some x.Value) hp.2 (fun y hy=>hn y (by simp [hy]))
       unfold jd at this
       rw [this,gD.2 (fun y hy=>by have:=hp.1 y hy; omega)]
       rfl
      ·rw [if_neg hk,if_neg (fun e=>hk e.symm)]
       exact ih o hp.2 (fun y hy=>hn y (by simp [hy]))
    rw [key N _ hN.TK hN.nd,Yj]
    cases lS N k <;> rfl
   simp only
   rw [hall,if_neg (by have:=hN.len; omega),List.drop_left,jQ (DK.rep (by decide)),Yx]
 constructor
 ·unfold rH
  rw [h4,hgen,if_neg (by simp only [not_or]; exact ⟨by simp,by omega,by omega⟩),hrd]
 ·rw [←List.drop_drop,hdrop,List.drop_left,gZ]
  simp
theorem Dv {b:List Int} (h:b.getD 4 0≠0):rH b=none:=if_pos (.inl h)
theorem zUE {b0 b1 c:List Int} {o:OS} (h:OV b0 b1=o) (hc:rH c=none):(o.act=0→OV b0 c=o)∧(o.act≠0→OV c b1=o):=by
 rcases Le b0 b1 with ⟨h0,h1,e⟩ | ⟨g,K,t,h0,h1,e⟩ | ⟨g,K,t,h1,h0,e⟩
 ·rw [e] at h
  subst h
  exact ⟨fun ha=>(by cases ha),fun _=>Yz hc h1⟩
 ·rw [e] at h
  subst h
  exact ⟨fun _=>rf h0 fun p hp=>(by rw [hc] at hp; cases hp),fun ha=>absurd rfl ha⟩
 ·rw [e] at h
  subst h
  exact ⟨fun ha=>(by cases ha),fun _=>Dt h1 fun p hp=>by rw [hc] at hp; cases hp⟩
theorem zUL {b0 b1 c:List Int} {o:OS} (h:OV b0 b1=o) {N:List zB} {t:Nat} (hc:rH c=some (o.gen+1,N,t)):(o.act=0→OV b0 c=VE 1 c (o.gen+1) N t)∧(o.act≠0→OV c b1=VE 0 c (o.gen+1) N t):=by
 rcases Le b0 b1 with ⟨h0,h1,e⟩ | ⟨g,K,t',h0,h1,e⟩ | ⟨g,K,t',h1,h0,e⟩
 ·rw [e] at h
  subst h
  exact ⟨fun ha=>(by cases ha),fun _=>rf hc fun p hp=>by rw [h1] at hp; cases hp⟩
 ·rw [e] at h
  subst h
  refine ⟨fun _=>Dt hc fun p hp=>?_,fun ha=>absurd O ha⟩
  rw [h0] at hp
  injection hp with hp
  subst hp
  show g<g+1
  omega
 ·rw [e] at h
  subst h
  refine ⟨fun ha=>(by cases ha),fun _=>rf hc fun p hp=>?_⟩
  rw [h1] at hp
  injection hp with hp
  subst hp
  show g≤g+1
  omega
structure iX (d e:zA) (k:Nat) (c:List Int):Prop where
 ok:FQ e
 size:e.size=d.size
 AY:e.AY.length=d.AY.length
 BU:e.BU=d.BU
 len:e.bytes.length=d.bytes.length
 at_:yU e k=c
 YT:∀ j,j≠k→j<d.AY.length→yU e j=yU d j
theorem iX.refl {d:zA} (h:FQ d) (k:Nat):iX d d k (yU d k):=⟨h,O,O,O,O,O,fun _ _ _=>O⟩
theorem iX.write {d e:zA} {k:Nat} {c:List Int} (ht:iX d e k c) (h:FQ d) (hk:k<d.AY.length) {e':zA} {t:Nat} {w:List Int} (he':FQ e') (hs:e'.size=e.size) (hw:e'.AY.length=e.AY.length) (htn:e'.BU=e.BU) (hb:e'.bytes=spl e.bytes (k*d.size.toNat+t) w) (hl:t+w.length≤d.size.toNat):iX d e' k (spl c t w):=by
 have hle:=tP h hk
 have hz:e.size.toNat=d.size.toNat:=by rw [ht.size]
 refine ⟨he',hs.trans ht.size,hw.trans ht.AY,htn.trans ht.BU,?_,?_,fun j hj jf=>?_⟩
 ·rw [hb,eE (by rw [ht.len]; omega),ht.len]
 ·rw [zKL (k0:=k) hs (by rw [hz]; exact hb) (by rw [hz]; exact hl) (by rw [hz,ht.len]; exact hle) (by rw [hz,ht.len]; exact hle),if_pos O,ht.at_]
 ·rw [zKL (k0:=k) hs (by rw [hz]; exact hb) (by rw [hz]; exact hl) (by rw [hz,ht.len]; exact hle) (by rw [hz,ht.len]; exact tP h jf),if_neg hj,ht.YT j hj jf]
theorem iX.prog {d e:zA} {k:Nat} {c:List Int} (ht:iX d e k c) (h:FQ d) (hk:k<d.AY.length) (hd:e.down=false) {t:Nat} {w:List Int} (hr:DK w) (hl:t+w.length≤d.size.toNat) (hbl:∀ j,t≤j→j<t+w.length→c[j]? =some 255):
  ((zO e ((k*d.size.toNat+t:Nat):Int) w).2=0∧(zO e ((k*d.size.toNat+t:Nat):Int) w).1.down=false∧iX d (zO e ((k*d.size.toNat+t:Nat):Int) w).1 k (spl c t w))∨
  ((zO e ((k*d.size.toNat+t:Nat):Int) w).2=10∧(zO e ((k*d.size.toNat+t:Nat):Int) w).1.down=true∧∃ n,n<w.length∧iX d (zO e ((k*d.size.toNat+t:Nat):Int) w).1 k (spl c t (w.take n++ [CZ .u8 (w.getD n 0) d.BU]))):=by
 have hle:=tP h hk
 have hz:e.size.toNat=d.size.toNat:=by rw [ht.size]
 have her:Dp e.bytes (k*d.size.toNat+t) w.length:=fun j h1 h2=>by
  have:=hbl (j - k*d.size.toNat) (by omega) (by omega)
  rw [←ht.at_,dM,hz,if_pos (by omega)] at this
  rw [←this]
  congr 1
  omega
 obtain ⟨p1,p2,p3,p4,p5⟩:=zMl ht.ok hr ((k*d.size.toNat+t:Nat):Int)
 rcases zBF (i:=k*d.size.toNat+t) ht.ok hd hr (by rw [ht.len]; omega) her with ⟨h1,h2,h3⟩ | ⟨h1,h2,n,hn,h3⟩
 ·exact .inl ⟨h1,h3,ht.write h hk p1 p2 p3 p5 h2 hl⟩
 ·refine .inr ⟨h1,h2,n,hn,?_⟩
  rw [ht.BU] at h3
  exact ht.write h hk p1 p2 p3 p5 h3 (by simp; omega)
theorem zNI {d:zA} (h:FQ d) {k:Nat} (hk:k<d.AY.length) (hd:d.down=false):
  ((tU d (k:Int)).2=0∧(tU d (k:Int)).1.down=false∧iX d (tU d (k:Int)).1 k (List.replicate d.size.toNat 255))∨
  ((tU d (k:Int)).2=10∧(tU d (k:Int)).1.down=true∧iX d (tU d (k:Int)).1 k ((yU d k).map fun x=>CZ .u8 x d.BU)):=by
 have hle:=tP h hk
 have hsl:=jW h hk
 obtain ⟨p1,p2,p3,p4,p5⟩:=zIR h (k:Int)
 have key:∀ v,MG d.bytes (k*d.size.toNat) d.size.toNat v=spl d.bytes (k*d.size.toNat+0) ((yU d k).map fun x=>CZ .u8 x v):=fun v=>by
  unfold MG spl yU
  rw [Nat.add_zero]
  simp only [List.length_map,List.length_take,List.length_drop]
  congr 2
  omega
 have hstep:(xK (KE d k)).1.down=(xK (KE d k)).2:=Xz hd
 have e1:((k:Int)).toNat=k:=rfl
 cases hf:(xK (KE d k)).2
 ·left
  have ee:tU d (k:Int)=(XK (xK (KE d k)).1 (MG d.bytes (k*d.size.toNat) d.size.toNat 255),0):=by
   unfold tU
   rw [if_neg (by simp [hd]),if_neg (by omega),e1,hf]
   rfl
  rw [ee] at p1 p2 p3 p5 ⊢
  rw [hf] at hstep
  refine ⟨O,hstep,?_⟩
  have:=(iX.refl h k).write h hk (e':=XK (xK (KE d k)).1 (MG d.bytes (k*d.size.toNat) d.size.toNat 255)) (t:=0) (w:=(yU d k).map fun x=>CZ .u8 x 255) p1 p2 p3 p5 (key 255) (by simp [hsl])
  have e2:spl (yU d k) 0 ((yU d k).map fun x=>CZ .u8 x 255)=List.replicate d.size.toNat 255:=by
   unfold spl
   rw [List.take_zero,List.nil_append,Nat.zero_add,List.drop_eq_nil_of_le (by simp),List.append_nil,List.eq_replicate_iff]
   refine ⟨by simp [hsl],fun x hx=>?_⟩
   obtain ⟨y,hy,rfl⟩:=List.mem_map.1 hx
   exact zYh (nU h k y hy)
  rw [e2] at this
  exact this
 ·right
  have ee:tU d (k:Int)=(XK (xK (KE d k)).1 (MG d.bytes (k*d.size.toNat) d.size.toNat d.BU),10):=by
   unfold tU
   rw [if_neg (by simp [hd]),if_neg (by omega),e1,hf]
   rfl
  rw [ee] at p1 p2 p3 p5 ⊢
  rw [hf] at hstep
  refine ⟨O,hstep,?_⟩
  have:=(iX.refl h k).write h hk (e':=XK (xK (KE d k)).1 (MG d.bytes (k*d.size.toNat) d.size.toNat d.BU)) (t:=0) (w:=(yU d k).map fun x=>CZ .u8 x d.BU) p1 p2 p3 p5 (key d.BU) (by simp [hsl])
  have e2:spl (yU d k) 0 ((yU d k).map fun x=>CZ .u8 x d.BU)=(yU d k).map fun x=>CZ .u8 x d.BU:=by
   unfold spl
   rw [List.take_zero,List.nil_append,Nat.zero_add,List.drop_eq_nil_of_le (by simp),List.append_nil]
  rw [e2] at this
  exact this
theorem Za {o:OS} {d:zA} (h:FQ d) (hd:d.down=false) (hz:1024≤d.size) {f:Nat} (hf:f+1<d.AY.length) {N:List zB} (hN:JZ N):
  ((oG o d f N).2=0∧(oG o d f N).1.down=false∧iX d (oG o d f N).1 (f+rD o) (spl (spl (spl (List.replicate d.size.toNat 255) 0 (bZ (o.gen+1))) 5 (if N= [] then [] else wI N)) 4 [0]))∨
  ((oG o d f N).2=10∧(oG o d f N).1.down=true∧∃ c,iX d (oG o d f N).1 (f+rD o) c∧(c=spl (spl (spl (List.replicate d.size.toNat 255) 0 (bZ (o.gen+1))) 5 (if N= [] then [] else wI N)) 4 [0]∨rH c=none∨c=yU d (f+rD o))):=by
 have hw:=h.AY
 have hsz:=h.size
 have Dl:rD o≤1:=by unfold rD; split <;> omega
 have hk:f+rD o<d.AY.length:=by omega
 obtain ⟨k,hkk⟩:∃ k,f+rD o=k:=⟨_,rfl⟩
 rw [hkk] at hk ⊢
 have hle:=tP h hk
 obtain ⟨z,hzz⟩:∃ z,d.size.toNat=z:=⟨_,rfl⟩
 have hz':1024≤z:=by omega
 have hel:=Ld hN.len hN.ok
 obtain ⟨w,hwe⟩:∃ w,(if N= [] then [] else wI N)=w:=⟨_,rfl⟩
 have hwl:w.length≤962:=by
  rw [←hwe]
  split
  ·simp
  ·exact hel.2
 have hwr:DK w:=by
  rw [←hwe]
  split
  ·exact DK.nil
  ·exact jK hN.len hN.ok
 have hgl:(bZ (o.gen+1)).length=4:=rfl
 have hgr:=Yr (o.gen+1)
 unfold oG
 simp only
 rw [hkk,hzz,hwe]
 -- the first stage: erased
 obtain ⟨r1,hr1⟩:∃ r1,(if sV (yU d k) then (d,0) else tU d (k:Int))=r1:=⟨_,rfl⟩
 rw [hr1]
 have s1:(r1.2=0∧r1.1.down=false∧iX d r1.1 k (List.replicate z 255))∨(r1.2=10∧r1.1.down=true∧iX d r1.1 k ((yU d k).map fun x=>CZ .u8 x d.BU)):=by
  rw [←hr1]
  split
  ·rename_i hb
   left
   refine ⟨O,hd,?_⟩
   have:=iX.refl h k
   rw [gZ.1 hb,jW h hk,hzz] at this
   exact this
  ·have:=zNI h hk hd
   rw [hzz] at this
   exact this
 rcases s1 with ⟨a1,a2,a3⟩ | ⟨a1,a2,a3⟩
 case inr=>
  right
  have e1:(oI (oI (oI r1 fun d1=>zO d1 ((k*z:Nat):Int) (bZ (o.gen+1))) fun d2=>if N= [] then (d2,0) else zO d2 (((k*z:Nat):Int)+5) (wI N)) fun d3=>zO d3 (((k*z:Nat):Int)+4) [0])=r1:=by
   have hne:¬ r1.2=0:=by rw [a1]; decide
   unfold oI
   rw [if_neg hne,if_neg hne,if_neg hne]
  rw [e1]
  refine ⟨a1,a2,_,a3,?_⟩
  by_cases ht:d.BU=0
  ·right; right
   rw [ht]
   conv=>rhs; rw [←List.map_id (yU d k)]
   apply List.map_congr_left
   intro x hx
   exact Xy (nU h k x hx)
  ·right; left
   refine Dv ?_
   rw [List.getD_eq_getElem?_getD,List.getElem?_map]
   have h4:4<(yU d k).length:=by rw [jW h hk]; omega
   rw [List.getElem?_eq_getElem h4]
   show CZ .u8 (yU d k)[4] d.BU≠0
   intro e
   exact ht ((or_zero (nU h k _ (List.getElem_mem h4)) h.BU).1 e).2
 -- the generation
 have OZ:∀ j,j<z→(List.replicate z (255:Int))[j]? =some 255:=fun j hj=>by rw [List.getElem?_replicate,if_pos hj]
 have e2:(oI r1 fun d1=>zO d1 ((k*z:Nat):Int) (bZ (o.gen+1)))=zO r1.1 ((k*z:Nat):Int) (bZ (o.gen+1)):=by unfold oI; rw [if_pos a1]
 rw [e2]
 have s2:=a3.prog h hk a2 (t:=0) hgr (by rw [hzz,hgl]; omega) (fun j _ hj=>OZ j (by rw [hgl] at hj; omega))
 rw [hzz,Nat.add_zero] at s2
 obtain ⟨r2,hr2⟩:∃ r2,zO r1.1 ((k*z:Nat):Int) (bZ (o.gen+1))=r2:=⟨_,rfl⟩
 rw [hr2] at s2 ⊢
 have hst:∀ (u:List Int),u.length≤4→(spl (List.replicate z (255:Int)) 0 u).getD 4 0=255:=fun u hu=>by
  rw [List.getD_eq_getElem?_getD,sZ (by simp; omega),if_neg (by omega),if_neg (by omega),OZ 4 (by omega)]
  rfl
 rcases s2 with ⟨b1,b2,b3⟩ | ⟨b1,b2,n,hn,b3⟩
 case inr=>
  right
  have e3:(oI (oI r2 fun d2=>if N= [] then (d2,0) else zO d2 (((k*z:Nat):Int)+5) (wI N)) fun d3=>zO d3 (((k*z:Nat):Int)+4) [0])=r2:=by
   have hne:¬ r2.2=0:=by rw [b1]; decide
   unfold oI
   rw [if_neg hne,if_neg hne]
  rw [e3]
  refine ⟨b1,b2,_,b3, .inr (.inl (Dv ?_))⟩
  rw [hst _ (by rw [hgl] at hn; simp [hgl]; omega)]
  decide
 -- the settings
 obtain ⟨c1,hc1⟩:∃ c1,spl (List.replicate z (255:Int)) 0 (bZ (o.gen+1))=c1:=⟨_,rfl⟩
 rw [hc1] at b3 ⊢
 have aK4:c1.length=z:=by rw [←hc1,eE (by simp [hgl]; omega)]; simp
 have jg:∀ j,4≤j→j<z→c1[j]? =some 255:=fun j h4 hj=>by rw [←hc1,sZ (by simp [hgl]; omega),if_neg (by omega),if_neg (by rw [hgl]; omega),OZ j hj]
 have e4:(oI r2 fun d2=>if N= [] then (d2,0) else zO d2 (((k*z:Nat):Int)+5) (wI N))=if N= [] then (r2.1,0) else zO r2.1 (((k*z:Nat):Int)+5) (wI N):=by unfold oI; rw [if_pos b1]
 rw [e4]
 have s3:∃ r3,(if N= [] then (r2.1,0) else zO r2.1 (((k*z:Nat):Int)+5) (wI N))=r3∧((r3.2=0∧r3.1.down=false∧iX d r3.1 k (spl c1 5 w))∨(r3.2=10∧r3.1.down=true∧∃ n,n<w.length∧iX d r3.1 k (spl c1 5 (w.take n++ [CZ .u8 (w.getD n 0) d.BU])))):=by
  refine ⟨_,O,?_⟩
  by_cases hne:N= []
  ·rw [if_pos hne]
   left
   rw [if_pos hne] at hwe
   rw [←hwe,zOM]
   exact ⟨O,b2,b3⟩
  ·rw [if_neg hne]
   rw [if_neg hne] at hwe
   have e5:((k*z:Nat):Int)+5=((k*z+5:Nat):Int):=by omega
   have:=b3.prog h hk b2 (t:=5) hwr (by rw [hzz]; omega) (fun j h1 h2=>jg j (by omega) (by omega))
   rw [hzz] at this
   rw [e5,hwe]
   exact this
 obtain ⟨r3,hr3,s3⟩:=s3
 rw [hr3]
 rcases s3 with ⟨g1,g2,g3⟩ | ⟨g1,g2,n,hn,g3⟩
 case inr=>
  right
  have e6:(oI r3 fun d3=>zO d3 (((k*z:Nat):Int)+4) [0])=r3:=by
   have hne:¬ r3.2=0:=by rw [g1]; decide
   unfold oI
   rw [if_neg hne]
  rw [e6]
  refine ⟨g1,g2,_,g3, .inr (.inl (Dv ?_))⟩
  rw [List.getD_eq_getElem?_getD,sZ (by simp; omega),if_pos (by omega),jg 4 (by omega) (by omega)]
  decide
 -- the status
 have e7:(oI r3 fun d3=>zO d3 (((k*z:Nat):Int)+4) [0])=zO r3.1 (((k*z:Nat):Int)+4) [0]:=by unfold oI; rw [if_pos g1]
 rw [e7]
 have e8:((k*z:Nat):Int)+4=((k*z+4:Nat):Int):=by omega
 rw [e8]
 have Zb:∀ j,4≤j→j<4+ [(0:Int)].length→(spl c1 5 w)[j]? =some 255:=fun j h1 h2=>by
  simp only [List.length_singleton] at h2
  rw [sZ (by omega),if_pos (by omega),jg j h1 (by omega)]
 have s4:=g3.prog h hk g2 (t:=4) (w:= [0]) (DK.cons (by decide) DK.nil) (by rw [hzz]; simp; omega) Zb
 rw [hzz] at s4
 rcases s4 with ⟨i1,i2,i3⟩ | ⟨i1,i2,n,hn,i3⟩
 ·exact .inl ⟨i1,i2,i3⟩
 ·right
  refine ⟨i1,i2,_,i3,?_⟩
  have hn0:n=0:=by simp at hn; exact hn
  subst hn0
  have e9:(([0]:List Int).take 0++ [CZ .u8 (([0]:List Int).getD 0 0) d.BU])= [CZ .u8 0 d.BU]:=rfl
  rw [e9]
  by_cases ht:d.BU=0
  ·left
   rw [ht,Xy (by decide)]
  ·right; left
   refine Dv ?_
   rw [List.getD_eq_getElem?_getD,sZ (by rw [eE (by omega)]; simp; omega),if_neg (by omega),if_pos (by simp)]
   show CZ .u8 0 d.BU≠0
   intro e
   exact ht ((or_zero (by decide) h.BU).1 e).2
structure QT (d e:zA):Prop where
 ok:FQ e
 size:e.size=d.size
 AY:e.AY.length=d.AY.length
 BU:e.BU=d.BU
 len:e.bytes.length=d.bytes.length
theorem QT.refl {d:zA} (h:FQ d):QT d d:=⟨h,O,O,O,O⟩
theorem iX.like {d e:zA} {k:Nat} {c:List Int} (h:iX d e k c):QT d e:=⟨h.ok,h.size,h.AY,h.BU,h.len⟩
structure Zc (o:OS) (d:zA) (f:Nat) (l:List zB) (r:Option OS × zA × Int):Prop where
 like:QT d r.2.1
 cases:(r.2.2=0∧r.2.1.down=false∧r.1=some (BQ r.2.1 f)∧jO l=0∧(BQ r.2.1 f).K=vH o.K l∧(BQ r.2.1 f).gen≤o.gen+1)∨
  ((r.2.2=1∨r.2.2=3∨r.2.2=7)∧r.1=some o∧r.2.1=d)∨
  (r.2.2=10∧r.2.1.down=true∧r.1=none∧jO l=0∧((BQ r.2.1 f).K=o.K∨(BQ r.2.1 f).K=vH o.K l)∧(BQ r.2.1 f).gen≤o.gen+1)
theorem Lh {l:List zB} (hl:∀ x∈l,0≤x.Key∧x.Key≤255∧DK x.Value) (h:jO l=0):∀ x∈l,OE x:=fun x hx=>
 have hc:=(La h).2 x hx
 ⟨⟨(hl x hx).1,(hl x hx).2.1⟩,hc.1,(hl x hx).2.2,hc.2⟩
theorem dS {d:zA} (h:FQ d) (hz:1024≤d.size) {f:Nat} (hf:f+1<d.AY.length):Lc (BQ d f):=by
 have hs:=h.size
 rw [jB]
 exact zTV (nU h _) (nU h _) (by rw [jW h (by omega)]; omega) (by rw [jW h hf]; omega)
theorem Zd {o:OS} {d:zA} {f:Nat} {l:List zB} (h:FQ d) (hd:d.down=false) (hz:1024≤d.size) (hf:f+1<d.AY.length) (ho:BQ d f=o) (hc0:jO l=0) (hnil:l≠ []) (KF:∀ x∈l,OE x) (h32:(vH o.K l).length≤32)
  (ha:0≤o.act) (hcl:o.clean=true) (hlen:((wI l).length:Int)≤d.size - o.tail):
  Zc o d f l (dR o ⟨o.act,o.gen,vH o.K l,o.tail+(wI l).length,o.clean⟩ (zO d (((f+o.act.toNat)*d.size.toNat:Nat)+o.tail) (wI l))):=by
 have hco:=La hc0
 have hpos:1≤l.length:=List.length_pos_iff.2 hnil
 have her:=jK hco.1 KF
 have hsz:=h.size
 -- the active FT
 have key:∃ (a:Nat) (t:Nat),o.act=(a:Int)∧a≤1∧o.tail=(t:Int)∧rH (yU d (f+a))=some (o.gen,o.K,t)∧sV ((yU d (f+a)).drop t)=true∧
   (∀ (e:zA) (K':List zB) (t':Nat),rH (yU e (f+a))=some (o.gen,K',t')→(∀ j,j≠f+a→j<d.AY.length→yU e j=yU d j)→BQ e f=⟨(a:Int),o.gen,K',(t':Int),sV ((yU e (f+a)).drop t')⟩):=by
  rw [jB] at ho
  rcases Le (yU d f) (yU d (f+1)) with ⟨_,_,e⟩ | ⟨g,K,t,h0,h1,e⟩ | ⟨g,K,t,h1,h0,e⟩
  ·rw [e] at ho
   subst ho
   exact absurd ha (by decide)
  ·rw [e] at ho
   subst ho
   refine ⟨0,t,O,by omega,O,h0,hcl,fun e K' t' h2 h3=>?_⟩
   rw [jB,h3 (f+1) (by omega) hf]
   exact rf h2 h1
  ·rw [e] at ho
   subst ho
   refine ⟨1,t,O,by omega,O,h1,hcl,fun e K' t' h2 h3=>?_⟩
   rw [jB,h3 f (by omega) (by omega)]
   exact Dt h2 h0
 obtain ⟨a,t,e1,ha1,e2,hs,hb,hopen⟩:=key
 have hk:f+a<d.AY.length:=by omega
 have hle:=tP h hk
 rw [e2] at hlen
 have hpa:((f+o.act.toNat)*d.size.toNat:Nat)+o.tail=(((f+a)*d.size.toNat+t:Nat):Int):=by
  rw [e1,e2]
  have:((a:Int)).toNat=a:=rfl
  rw [this]
  omega
 rw [hpa]
 have htl:t+(wI l).length≤d.size.toNat:=by omega
 have hlen2:(yU d (f+a)).length=d.size.toNat:=jW h hk
 have hbg:∀ j,t≤j→j<t+(wI l).length→(yU d (f+a))[j]? =some 255:=fun j h1 h2=>by
  have:=zMp hle hb htl ((f+a)*d.size.toNat+j) (by omega) (by omega)
  rw [dM,if_pos (by omega)]
  exact this
 obtain ⟨r,hr⟩:∃ r,zO d (((f+a)*d.size.toNat+t:Nat):Int) (wI l)=r:=⟨_,rfl⟩
 have hp:=(iX.refl h (f+a)).prog h hk hd her htl hbg
 rw [hr] at hp ⊢
 rcases hp with ⟨p1,p2,p3⟩ | ⟨p1,p2,n,hn,p3⟩
 ·have h2:=zJc (nU h _) hs hb hpos hco.1 KF h32 (by rw [hlen2]; exact htl)
  have h3:=hopen r.1 (vH o.K l) (t+(wI l).length) (by rw [p3.at_]; exact h2) p3.YT
  have hcl':sV ((yU r.1 (f+a)).drop (t+(wI l).length))=true:=by
   rw [p3.at_,zPe (by rw [hlen2]; exact htl),aL hb,gZ]
   simp
  rw [hcl'] at h3
  unfold dR
  rw [if_pos p1]
  refine ⟨p3.like, .inl ⟨O,p2,?_,hc0,by rw [h3],by rw [h3]; show o.gen≤o.gen+1; omega⟩⟩
  rw [h3,e1,e2,hcl]
  congr 2
 ·have hne:¬ r.2=0:=by rw [p1]; decide
  unfold dR
  rw [if_neg hne,if_pos p1]
  refine ⟨p3.like, .inr (.inr ⟨O,p2,O,hc0,?_⟩)⟩
  rcases zPm (nU h _) hs hb hpos hco.1 KF h32 (by rw [hlen2]; exact htl) h.BU hn with h2 | h2
  ·have h3:=hopen r.1 _ _ (by rw [p3.at_]; exact h2) p3.YT
   rw [h3]
   exact ⟨.inl O,by show o.gen≤o.gen+1; omega⟩
  ·have h3:=hopen r.1 _ _ (by rw [p3.at_]; exact h2) p3.YT
   rw [h3]
   exact ⟨.inr O,by show o.gen≤o.gen+1; omega⟩
theorem zTD {o:OS} {d:zA} {f:Nat} {l:List zB} (h:FQ d) (hd:d.down=false) (hz:1024≤d.size) (hf:f+1<d.AY.length) (ho:BQ d f=o) (hc0:jO l=0) (hK:JZ (vH o.K l)) (hg:o.gen≠2147483648):
  Zc o d f l (dR o (Dj o (vH o.K l)) (oG o d f (vH o.K l))):=by
 have VF:=dS h hz hf
 rw [ho] at VF
 have hgb:=VF.gen
 have Dl:rD o≤1:=by unfold rD; split <;> omega
 have hact:=VF.act
 obtain ⟨N,hN⟩:∃ N,vH o.K l=N:=⟨_,rfl⟩
 rw [hN] at hK
 have hz2:1024≤d.size.toNat:=by omega
 -- what the BL say when the other one was turned
 have key:∀ (e:zA) (c:List Int),iX d e (f+rD o) c→(rH c=none→BQ e f=o)∧(∀ t,rH c=some (o.gen+1,N,t)→BQ e f=VE (rD o:Int) c (o.gen+1) N t)∧(c=yU d (f+rD o)→BQ e f=o):=by
  intro e c ht
  rw [jB] at ho
  have h1:=fun hc=>zUE (c:=c) ho hc
  have h2:=fun (t:Nat) (hc:rH c=some (o.gen+1,N,t))=>zUL (c:=c) ho hc
  rw [jB]
  by_cases ha:o.act=0
  ·have hof:rD o=1:=by unfold rD; rw [if_pos ha]
   rw [hof] at ht ⊢
   rw [ht.YT f (by omega) (by omega),ht.at_]
   exact ⟨fun hc=>(h1 hc).1 ha,fun t hc=>(h2 t hc).1 ha,fun hc=>by rw [hc]; exact ho⟩
  ·have hof:rD o=0:=by unfold rD; rw [if_neg ha]
   rw [hof] at ht ⊢
   rw [Nat.add_zero] at ht ⊢
   rw [ht.YT (f+1) (by omega) hf,ht.at_]
   exact ⟨fun hc=>(h1 hc).2 ha,fun t hc=>(h2 t hc).2 ha,fun hc=>by rw [hc]; exact ho⟩
 rw [hN]
 have hnew:=zRo hz2 (g:=o.gen+1) (by omega) (by omega) hK O
 obtain ⟨r,hr⟩:∃ r,oG o d f N=r:=⟨_,rfl⟩
 have hms:=Za (o:=o) h hd hz hf hK
 rw [hr] at hms ⊢
 have hmo:VE (rD o:Int) (spl (spl (spl (List.replicate d.size.toNat 255) 0 (bZ (o.gen+1))) 5 (if N= [] then [] else wI N)) 4 [0]) (o.gen+1) N (5+(if N= [] then [] else wI N).length)=Dj o N:=by
  unfold VE Dj
  rw [hnew.2]
  congr 1
  by_cases hne:N= []
  ·rw [if_pos hne,if_pos hne]; rfl
  ·rw [if_neg hne,if_neg hne]; omega
 rcases hms with ⟨p1,p2,p3⟩ | ⟨p1,p2,c,p3,p4⟩
 ·have h3:=(key r.1 _ p3).2.1 _ hnew.1
  rw [hmo] at h3
  unfold dR
  rw [if_pos p1]
  exact ⟨p3.like, .inl ⟨O,p2,by rw [h3],hc0,by rw [h3,hN]; rfl,by rw [h3]; exact Int.le_refl _⟩⟩
 ·have hne:¬ r.2=0:=by rw [p1]; decide
  unfold dR
  rw [if_neg hne,if_pos p1]
  refine ⟨p3.like, .inr (.inr ⟨O,p2,O,hc0,?_⟩)⟩
  rcases p4 with p4 | p4 | p4
  ·rw [p4] at p3
   have h3:=(key r.1 _ p3).2.1 _ hnew.1
   rw [hmo] at h3
   rw [h3]
   exact ⟨.inr hN.symm,Int.le_refl _⟩
  ·rw [(key r.1 _ p3).1 p4]
   exact ⟨.inl O,by omega⟩
  ·rw [(key r.1 _ p3).2.2 p4]
   exact ⟨.inl O,by omega⟩
theorem zXe {o:OS} {d:zA} {f:Nat} {l:List zB} (h:FQ d) (hd:d.down=false) (hz:1024≤d.size) (hf:f+1<d.AY.length) (ho:BQ d f=o) (hl:∀ x∈l,0≤x.Key∧x.Key≤255∧DK x.Value):Zc o d f l (OU o d f l):=by
 unfold OU
 rw [if_neg (by simp [hd])]
 by_cases hc:jO l≠0
 ·rw [if_pos hc]
  refine ⟨QT.refl h, .inr (.inl ⟨?_,O,O⟩)⟩
  rcases zMe l with e | e | e | e
  ·exact absurd e hc
  ·exact .inl e
  ·exact .inr (.inr e)
  ·exact .inr (.inl e)
 ·have hc0:jO l=0:=by omega
  rw [if_neg hc]
  by_cases hnil:l= []
  ·rw [if_pos hnil]
   refine ⟨QT.refl h, .inl ⟨O,hd,by rw [ho],hc0,by rw [ho,hnil]; rfl,by rw [ho]; show o.gen≤o.gen+1; omega⟩⟩
  ·rw [if_neg hnil]
   by_cases h32:(vH o.K l).length>32
   ·rw [if_pos h32]
    exact ⟨QT.refl h, .inr (.inl ⟨.inr (.inl O),O,O⟩)⟩
   ·rw [if_neg h32]
    have KF:=Lh hl hc0
    have VF:=dS h hz hf
    rw [ho] at VF
    by_cases hap:0≤o.act∧o.clean=true∧((wI l).length:Int)≤d.size - o.tail
    ·rw [if_pos hap]
     exact Zd h hd hz hf ho hc0 hnil KF (by omega) hap.1 hap.2.1 hap.2.2
    ·rw [if_neg hap]
     by_cases hg:o.gen=2147483648
     ·rw [if_pos hg]
      exact ⟨QT.refl h, .inr (.inl ⟨.inr (.inl O),O,O⟩)⟩
     ·rw [if_neg hg]
      exact zTD h hd hz hf ho hc0 (VF.K.all KF (by omega)) hg
theorem zSk {o:OS} {d:zA} {f:Nat} {l:List zB} (h:FQ d) (hd:d.down=false) (hz:1024≤d.size) (hf:f+1<d.AY.length) (ho:BQ d f=o) (hl:∀ x∈l,0≤x.Key∧x.Key≤255∧DK x.Value) (hc:jO l=0) (h32:(vH o.K l).length≤32) (hg:o.gen<2147483648):
  (OU o d f l).2.2=0∨(OU o d f l).2.2=10:=by
 have KF:=Lh hl hc
 have VF:=dS h hz hf
 rw [ho] at VF
 have hK:=VF.K.all KF h32
 unfold OU
 rw [if_neg (by simp [hd]),if_neg (by simp [hc])]
 split
 ·exact .inl O
 ·rename_i hnil
  rw [if_neg (by omega)]
  split
  ·rename_i hap
   rcases (Zd h hd hz hf ho hc hnil KF h32 hap.1 hap.2.1 hap.2.2).cases with hh | hh | hh
   ·exact .inl hh.1
   ·exfalso
    obtain ⟨h1,h2,h3⟩:=hh
    unfold dR at h1 h2
    split at h1
    ·rcases h1 with h1 | h1 | h1 <;> cases h1
    ·split at h1
     ·rcases h1 with h1 | h1 | h1 <;> cases h1
     ·rename_i h4 h5
      -- zO over an erased part is never refused
      have:=Zd h hd hz hf ho hc hnil KF h32 hap.1 hap.2.1 hap.2.2
      simp only at h1
      unfold zO at h1 h4 h5
      rw [if_neg (by simp [hd])] at h1 h4 h5
      split at h1
      ·rename_i h6
       rw [if_pos h6] at h4 h5
       rcases Ya (wI l) d (((f+o.act.toNat)*d.size.toNat:Nat)+o.tail).toNat with h7 | h7
       ·exact h4 h7
       ·exact h5 h7
      ·rename_i h6
       have hoa:=VF.act
       have hle:=tP h (show f+o.act.toNat<d.AY.length by omega)
       have hsz:=h.size
       have ht:=VF.tail
       exact h6 ⟨by omega,by omega,by omega,by omega⟩
   ·exact .inr hh.1
  ·rw [if_neg (by omega)]
   have hms:=Za (o:=o) h hd hz hf hK
   unfold dR
   rcases hms with ⟨p1,_⟩ | ⟨p1,_⟩
   ·rw [if_pos p1]; exact .inl O
   ·rw [if_neg (by rw [p1]; decide),if_pos p1]; exact .inr O
theorem zHj {d:zA} (h:d.left=0) (hd:d.down=false):(xK d).2=false∧(xK d).1.left=0∧(xK d).1.down=false:=by
 unfold xK
 rw [if_neg (by omega)]
 exact ⟨hd,h,hd⟩
theorem zGK:∀ (b:List Int) (d:zA) (i:Nat),d.left=0→d.down=false→(qY d i b).2=0∧(qY d i b).1.left=0∧(qY d i b).1.down=false
 | [],d,i,h,hd=>⟨O,h,hd⟩
 | x::b,d,i,h,hd=>by
  obtain ⟨h1,h2,h3⟩:=zHj h hd
  unfold qY
  rw [if_neg (by rw [h1]; decide)]
  exact zGK b (PL (xK d).1 i _) (i+1) h2 h3
theorem nT {d:zA} (h:d.left=0) (hd:d.down=false) (at_:Int) (b:List Int):(zO d at_ b).2≠10∧(zO d at_ b).1.left=0∧(zO d at_ b).1.down=false:=by
 unfold zO
 rw [if_neg (by simp [hd])]
 split
 ·obtain ⟨h1,h2,h3⟩:=zGK b d at_.toNat h hd
  exact ⟨by rw [h1]; decide,h2,h3⟩
 ·exact ⟨by simp,h,hd⟩
theorem zMr {d:zA} (h:d.left=0) (hd:d.down=false) (s:Int):(tU d s).2≠10∧(tU d s).1.left=0∧(tU d s).1.down=false:=by
 unfold tU
 rw [if_neg (by simp [hd])]
 split
 ·exact ⟨by simp,h,hd⟩
 ·obtain ⟨h1,h2,h3⟩:=zHj (d:=KE d s.toNat) h hd
  rw [h1]
  exact ⟨by simp,h2,h3⟩
theorem Ze {r:zA × Int} {g:zA→zA × Int} (hr:r.2≠10∧r.1.left=0∧r.1.down=false) (hg:∀ e:zA,e.left=0→e.down=false→(g e).2≠10∧(g e).1.left=0∧(g e).1.down=false):(oI r g).2≠10∧(oI r g).1.left=0∧(oI r g).1.down=false:=by
 unfold oI
 split
 ·exact hg _ hr.2.1 hr.2.2
 ·exact hr
theorem zMM {d:zA} (h:d.left=0) (hd:d.down=false) (o:OS) (f:Nat) (N:List zB):(oG o d f N).2≠10∧(oG o d f N).1.left=0∧(oG o d f N).1.down=false:=by
 unfold oG
 refine Ze (Ze (Ze ?_ fun e a b=>nT a b _ _) fun e a b=>?_) fun e a b=>nT a b _ _
 ·split
  ·exact ⟨by simp,h,hd⟩
  ·exact zMr h hd _
 ·split
  ·exact ⟨by simp,a,b⟩
  ·exact nT a b _ _
theorem zJi {o o':OS} {r:zA × Int} (h:r.2≠10∧r.1.left=0∧r.1.down=false):(dR o o' r).2.2≠10∧(dR o o' r).2.1.left=0∧(dR o o' r).2.1.down=false:=by
 unfold dR
 split
 ·exact ⟨by simp,h.2.1,h.2.2⟩
 ·rw [if_neg h.1]
  exact h
theorem zPP {d:zA} (h:d.left=0) (hd:d.down=false) (o:OS) (f:Nat) (l:List zB):(OU o d f l).2.2≠10∧(OU o d f l).2.1.left=0∧(OU o d f l).2.1.down=false:=by
 unfold OU
 rw [if_neg (by simp [hd])]
 split
 ·refine ⟨?_,h,hd⟩
  rcases zMe l with e | e | e | e <;> simp [e]
 ·split
  ·exact ⟨by simp,h,hd⟩
  ·split
   ·exact ⟨by simp,h,hd⟩
   ·split
    ·exact zJi (nT h hd _ _)
    ·split
     ·exact ⟨by simp,h,hd⟩
     ·exact zJi (zMM h hd o f _)
theorem aN (d:zA) (f:Nat):BQ (XL d) f=BQ d f:=rfl
theorem Zf {n:Nat} (h:n<4294967296):xP .u64 (n:Int) 32=0:=by
 have e:xP .u64 (n:Int) ((32:Nat):Int)=((n / 2 ^ 32:Nat):Int):=jC (by show 32≤64; omega)
 rw [Nat.div_eq_of_lt (by omega)] at e
 exact e
theorem Zg {n:Nat} (h:n<4294967296):vL .u64 (n:Int) 4294967295=(n:Int):=by
 have e:vL .u64 (n:Int) ((4294967295:Nat):Int)=((n&&&4294967295:Nat):Int):=by
  unfold vL
  have:=Nat.and_le_left (n:=n) (m:=4294967295)
  rw [BitVec.toNat_and,wH (by show n<2 ^ 64; omega),wH (by show 4294967295<2 ^ 64; omega),lF (by omega)]
 rw [show (4294967295:Nat)=2 ^ 32 - 1 from O,Nat.and_two_pow_sub_one_eq_mod,Nat.mod_eq_of_lt (by omega)] at e
 exact e
theorem mul_one {n:Nat} (h:n<4294967296):mH 1 (n:Int)=some (0,(n:Int)):=by
 unfold mH oE
 have h1:xP .u64 1 32=0:=Zf (n:=1) (by omega)
 have h2:vL .u64 1 4294967295=1:=Zg (n:=1) (by omega)
 have h0:xP .u64 0 32=0:=Zf (n:=0) (by omega)
 have h3:vL .u64 0 4294967295=0:=Zg (n:=0) (by omega)
 have w0:wrap .u64 0=0:=Ba (by omega) (by omega)
 have wn:wrap .u64 (n:Int)=(n:Int):=Ba (by omega) (by omega)
 simp only [h1,h2,Zf h,Zg h,Int.mul_zero,Int.zero_mul,Int.one_mul,w0,wn,h0,h3,Int.add_zero,Int.zero_add,AA]
def Dw:Int × List Int→Option (vM (Int × List Int) (List Int)):=
 (fun (s1:Int × List Int)=>bif decide (s1.1<(s1.2.length:Int)) then (bnd (jP s1.2.length s1.1 (s1.2.length:Int)) fun n1=>bnd (jP s1.2.length 0 s1.1) fun n2=>bnd (Go.Proofs.YtccooahdinmfmaaGreatDoor.sub s1.2 ((Int.toNat 0:Nat):Int) ((Int.toNat 0+n2:Nat):Int)) fun l3=>bnd (eA s1.2 (Int.toNat s1.1) n1 l3) fun l4=>some (.next (wrap .i64 (s1.1+((min l3.length n1:Nat):Int)),l4))) else (some (.done s1.2)))
theorem zRZ {n:Nat} (hn:n≤1000000) (s:Int × List Int) (hI:∃ (j m:Nat),s=((j:Int),List.replicate j 255++List.replicate m 0)∧1≤j∧j+m=n):(∃ s',Dw s=some (.next s')∧(∃ (j m:Nat),s'=((j:Int),List.replicate j 255++List.replicate m 0)∧1≤j∧j+m=n)∧(n:Int) - s'.1<n - s.1∧s'.1≤n)∨∃ t,Dw s=some (.done t)∧t=List.replicate n 255:=by
 obtain ⟨j,m,rfl,h1,h2⟩:=hI
 unfold Dw
 have hl:(List.replicate j (255:Int)++List.replicate m 0).length=j+m:=by simp
 simp only [hl]
 by_cases hm:m=0
 ·right
  subst hm
  rw [zM (by simp)]
  refine ⟨_,O,?_⟩
  rw [←h2]; simp
 ·left
  rw [zS (by simp; omega)]
  have e1:jP (j+m) (j:Int) ((j+m:Nat):Int)=some m:=by
   unfold jP
   rw [if_pos (by omega)]
   congr 1
   omega
  have e2:jP (j+m) 0 (j:Int)=some j:=by
   unfold jP
   rw [if_pos (by omega)]
   simp
  rw [e1,AA,e2,AA]
  have e3:Go.Proofs.YtccooahdinmfmaaGreatDoor.sub (List.replicate j (255:Int)++List.replicate m 0) ((Int.toNat 0:Nat):Int) ((Int.toNat 0+j:Nat):Int)=some (List.replicate j 255):=by
   rw [show Int.toNat 0=0 from O,aM (by omega) (by rw [hl]; omega)]
   simp
  rw [e3,AA]
  have e4:eA (List.replicate j (255:Int)++List.replicate m 0) (j:Int).toNat m (List.replicate j 255)=some (List.replicate (j+min j m) 255++List.replicate (m - min j m) 0):=by
   unfold eA
   rw [Int.toNat_natCast,if_pos (by rw [hl]; omega)]
   congr 1
   simp only [List.length_replicate,List.take_replicate]
   rw [List.take_append_of_le_length (by simp),List.drop_append,List.drop_eq_nil_of_le (by simp),List.take_of_length_le (by simp)]
   simp only [List.length_replicate,List.nil_append,List.drop_replicate,List.replicate_append_replicate]
   congr 1
   ·congr 1; omega
   ·congr 1; omega
  rw [e4,AA]
  refine ⟨_,O,⟨j+min j m,m - min j m,?_,by omega,by omega⟩,?_,?_⟩
  ·rw [zC (by simp; omega) (by simp; omega)]
   simp
  ·simp only [List.length_replicate]
   rw [zC (by omega) (by omega)]
   omega
  ·simp only [List.length_replicate]
   rw [zC (by omega) (by omega)]
   omega
theorem zQs {n:Nat} (h1:1≤n) (h2:n≤1000000):uQ [255] (n:Int)=some (List.replicate n 255):=by
 unfold uQ
 rw [zM (by simp)]
 have e1:wrap .u64 ((([255]:List Int).length:Nat):Int)=1:=Ba (by simp) (by simp)
 rw [e1,lF (by omega),mul_one (by omega),AA]
 simp only
 rw [zM (by simp),xO (by omega)]
 rw [show decide ((n:Int)>9223372036854775807)=false from by simp; omega,AA,zM O]
 have e2:mkS 1 (0:Int) (n:Int) (n:Int)=some (List.replicate n 0):=by
  unfold mkS
  rw [if_pos (by omega)]
  simp
 rw [e2,AA]
 have e3:eA (List.replicate n (0:Int)) 0 (List.replicate n (0:Int)).length [255]=some (List.replicate 1 255++List.replicate (n - 1) 0):=by
  unfold eA
  rw [if_pos (by simp)]
  have e:([255]:List Int).take n= [255]:=List.take_of_length_le (by simp; omega)
  have e':min 1 n=1:=by omega
  simp [e,e']
 rw [e3,AA]
 have hm:((min ([255]:List Int).length (List.replicate n (0:Int)).length:Nat):Int)=((1:Nat):Int):=by
  simp; omega
 rw [hm]
 obtain ⟨t,h3,h4⟩:=Bc (m:=Dw) (fun s=>(∃ (j m:Nat),s=((j:Int),List.replicate j 255++List.replicate m 0)∧1≤j∧j+m=n)∧s.1≤n) (fun s=>((n:Int) - s.1).toNat) (fun t=>t=List.replicate n 255) (fun s hs=>by
  rcases zRZ h2 s hs.1 with ⟨s',a,b,c,d⟩ | h
  ·exact .inl ⟨s',a,⟨b,d⟩,by omega⟩
  ·exact .inr h) (((1:Nat):Int),List.replicate 1 255++List.replicate (n - 1) 0) ⟨⟨1,n - 1,O,by omega,by omega⟩,by simp; omega⟩
 show bnd (zI Dw _) _=_
 rw [h3,h4]
 rfl
def YU (n m:Nat):zA:=⟨(m:Int),List.replicate (n*m) 255,List.replicate n 0,0,0,0,false⟩
theorem zWc {n m:Nat} (hn:1≤n∧n≤16) (hm:64≤m∧m≤1024):lC (n:Int) (m:Int)=some (some (YU n m),0):=by
 unfold lC
 rw [zM (by simp; omega),zM (by simp; omega),zM (by simp; omega),show decide ((m:Int)>1024)=false from by simp; omega,AA,zM O]
 have h1:n*m≤16*1024:=Nat.mul_le_mul hn.2 hm.2
 have h2:1*64≤n*m:=Nat.mul_le_mul hn.1 hm.1
 have e:(n:Int)*(m:Int)=((n*m:Nat):Int):=by simp
 rw [e,xO (by omega),zQs (by omega) (by omega),AA]
 have e2:mkS 8 (0:Int) (n:Int) (n:Int)=some (List.replicate n 0):=by
  unfold mkS
  rw [if_pos (by omega)]
  simp
 rw [e2]
 rfl
theorem zUS {n m:Nat} (hn:1≤n∧n≤16) (hm:64≤m∧m≤1024):FQ (YU n m):=⟨by show 64≤(m:Int)∧(m:Int)≤1024; omega,by show 1≤(List.replicate n (0:Int)).length∧(List.replicate n (0:Int)).length≤16; simpa using hn,by show ((List.replicate (n*m) (255:Int)).length:Int)=((List.replicate n (0:Int)).length:Int)*(m:Int); simp,DK.rep (by omega),by show (0:Int)≤0∧(0:Int)≤255; omega,by show (0:Int)≤0∧(0:Int)≤9223372036854775807; omega⟩
theorem cU {n m k:Nat} (h:k<n):yU (YU n m) k=List.replicate m 255:=by
 unfold yU YU
 simp only [Int.toNat_natCast,List.drop_replicate,List.take_replicate]
 have:(k+1)*m≤n*m:=Nat.mul_le_mul (by omega) (Nat.le_refl m)
 rw [Nat.add_mul] at this
 congr 1
 omega
theorem zOq {m:Nat} (h:5≤m):rH (List.replicate m 255)=none:=by
 refine Dv ?_
 rw [List.getD_eq_getElem?_getD,List.getElem?_replicate,if_pos (by omega)]
 simp
theorem zPO {n m f:Nat} (hm:5≤m) (h:f+1<n):BQ (YU n m) f=os0:=by
 rw [jB,cU (by omega),cU h,Yz (zOq hm) (zOq hm)]
theorem zTY (x y:zB):x=y↔x.Key=y.Key∧x.Delete=y.Delete∧x.Value=y.Value:=by
 cases x; cases y; simp only [zB.mk.injEq]
 exact ⟨fun h=>⟨h.1,h.2.2,h.2.1⟩,fun h=>⟨h.1,h.2.2,h.2.1⟩⟩
instance:DecidableEq zB:=fun x y=>decidable_of_iff _ (zTY x y).symm
theorem zVW {s:yD} {f:Nat} {o:OS} (hs:RJ s f o) (ho:JZ o.K) (d:zA):vF s=some o.K:=by
 obtain ⟨m,h1,h2,h3⟩:=hs.all
 unfold vF
 have hl:m.length≤1000:=by
  have:=qx m
  have:=ho.len
  rw [h3] at*
  omega
 rw [h1,zJk h2 hl (fun k v hk=>by have:=(zKZ h3 ho k v hk).1; omega),h3]
 rfl
def OW (d:sE):Prop:=0≤d.At∧d.L.length≤600
theorem Zh (x n:Int) (hn:0<n) (hb:n≤4611686018427387904):∃ r,oR x n=some r∧0≤r∧r<n∧r=x % n:=by
 unfold oR TV
 have h0:¬ n=0:=by omega
 rw [if_neg h0]
 simp only [AA]
 have h1:=Int.lt_tmod_of_pos x hn
 have h2:=Int.tmod_lt_of_pos x hn
 have h3:x.tmod n=x % n∨x.tmod n=x % n - n:=by
  rw [Int.tmod_eq_emod]
  split
  ·left; omega
  ·right
   have:(n.natAbs:Int)=n:=by omega
   omega
 have h4:=Int.emod_nonneg x h0
 have h5:=Int.emod_lt_of_pos x hn
 by_cases h:x.tmod n<0
 ·rw [show decide (x.tmod n<0)=true from by simp [h],cond_true,zC (by omega) (by omega)]
  exact ⟨_,O,by omega,by omega,by omega⟩
 ·rw [show decide (x.tmod n<0)=false from by simp [h],cond_false]
  exact ⟨_,O,by omega,by omega,by omega⟩
theorem zIk (d:sE) (n:Int) (hd:OW d) (hn:0<n) (hb:n≤4611686018427387904):∃ d' r,wL d n=some (d',r)∧OW d'∧0≤r∧r<n:=by
 obtain ⟨h1,h2⟩:=hd
 unfold wL
 by_cases h:d.At≥(d.L.length:Int)
 ·rw [show decide (d.At≥(d.L.length:Int))=true from by simp [h],cond_true]
  exact ⟨_,_,O,⟨h1,h2⟩,by omega,by omega⟩
 ·rw [show decide (d.At≥(d.L.length:Int))=false from by simp [h],cond_false,zC (x:=d.At+1) (by omega) (by omega),zC (by omega) (by omega)]
  obtain ⟨i,hi⟩:=Int.eq_ofNat_of_zero_le h1
  have e:d.At+1 - 1=(i:Int):=by omega
  have hi2:i<d.L.length:=by omega
  obtain ⟨r,hr,r1,r2,_⟩:=Zh d.L[i] n hn hb
  rw [e,vS hi2,AA,hr,AA]
  exact ⟨_,_,O,⟨by simp only; omega,h2⟩,r1,r2⟩
theorem zPV (d:sE) (n:Int) (hd:OW d) (hn:0<n) (hb:n≤4611686018427387904):∃ d' r,uZ d n=some (d',r)∧OW d':=by
 obtain ⟨d',r,h,hf,_⟩:=zIk d n hd hn hb
 unfold uZ
 rw [h]
 exact ⟨_,_,O,hf⟩
theorem zIK (l:List Int) (h:l.length≤600):OW ⟨l,0⟩:=⟨by simp,h⟩
theorem zNW (d:sE) (n:Int) (hd:OW d) (hn:0<n) (hb:n≤4611686018427387904):∃ x,uZ d n=some x∧OW x.1:=by
 obtain ⟨d',r,h,k⟩:=zPV d n hd hn hb
 exact ⟨_,h,k⟩
theorem Dx (d:sE) (n:Int) (hd:OW d) (hn:0<n) (hb:n≤4611686018427387904):∃ x,wL d n=some x∧OW x.1∧0≤x.2∧x.2<n:=by
 obtain ⟨d',r,h,k⟩:=zIk d n hd hn hb
 exact ⟨_,h,k⟩
theorem zTF (d:sE) (hd:OW d):∃ x,qT d=some x∧OW x.1∧∃ n:Nat,n<256∧x.2=(n:Int):=by
 unfold qT
 refine oz (zNW d 3 hd (by omega) (by omega)) fun a ha=>?_
 cases a.2
 ·rw [cond_false]
  refine oz (Dx a.1 256 ha (by omega) (by omega)) fun c ⟨h1,h2,h3⟩=>?_
  refine ⟨_,O,h1,c.2.toNat,by omega,?_⟩
  show wrap .u8 c.2=_
  rw [oC (by omega) (by omega)]
  omega
 ·rw [cond_true]
  refine oz (Dx a.1 8 ha (by omega) (by omega)) fun c ⟨h1,h2,h3⟩=>?_
  obtain ⟨k,hk⟩:∃ k:Nat,c.2=(k:Int):=⟨c.2.toNat,by omega⟩
  have hk8:k<8:=by omega
  have he:∀ k:Nat,k<8→AU ([0,1,127,128,254,255,15,240]:List Int) (k:Int)=some ((([0,1,127,128,254,255,15,240]:List Nat).getD k 0:Nat):Int)∧([0,1,127,128,254,255,15,240]:List Nat).getD k 0<256:=by decide+kernel
  rw [hk,(he k hk8).1,AA]
  exact ⟨_,O,h1,_,(he k hk8).2,O⟩
theorem zUG (d:sE) (a:ByteArray) (n:Int) (hd:OW d) (ha:0<a.size) (ha2:a.size≤1000) (hn:0≤n) (hb:n≤1000):∃ x,pB d a n=some x∧OW x.1∧((bs x.2).length:Int)=n∧∀ y∈bs x.2,y∈bs a:=by
 unfold pB
 refine lO (fun s=>OW ⟨s.2.2.1,s.2.2.2⟩∧0≤s.2.1∧s.2.1≤n∧((bs s.1).length:Int)=s.2.1∧∀ y∈bs s.1,y∈bs a) (fun s=>(n - s.2.1).toNat) (fun t=>OW ⟨t.2.1,t.2.2⟩∧((bs t.1).length:Int)=n∧∀ y∈bs t.1,y∈bs a)
  ⟨hd,by simp,hn,O,fun y hy=>by cases hy⟩ (fun s ⟨i1,i2,i3,i4,i5⟩=>?_) (fun t ⟨t1,t2,t3⟩=>⟨_,rfl,t1,t2,t3⟩)
 by_cases hs:s.2.1<n
 ·rw [decide_eq_true hs,cond_true]
  obtain ⟨x,hx,hf,x1,x2⟩:=Dx ⟨s.2.2.1,s.2.2.2⟩ (a.size:Int) i1 (by omega) (by omega)
  obtain ⟨k,hk⟩:∃ k:Nat,x.2=(k:Int):=⟨x.2.toNat,by omega⟩
  have hka:k<(bs a).length:=by rw [bs_len]; omega
  have hsub:FY a x.2 (wrap .i64 (x.2+1))=some (sb [(bs a)[k]]):=by
   have h1:wrap .i64 ((k:Int)+1)=((k+1:Nat):Int):=by rw [zC (by omega) (by omega)]; omega
   rw [hk,h1,Io (by omega) (by omega)]
   congr 2
   rw [zV hka,List.drop_append_of_le_length (by simp; omega),List.drop_of_length_le (by simp; omega)]
   rfl
  have h256:yN [(bs a)[k]]:=yN.cons ((iM a).get hka) yN.nil
  have hs1:s.1.size=(bs s.1).length:=(bs_len s.1).symm
  have Zi:JK s.1 (sb [(bs a)[k]])=some (sb (bs s.1++ [(bs a)[k]])):=by
   rw [Tj (by rw [KC]; simp; omega),pq h256]
  rw [hx,AA,hsub,AA,Zi,AA,zC (by omega) (by omega)]
  have hbs:=pq ((iM s.1).app h256)
  refine .inl ⟨_,O,⟨hf,by show 0≤s.2.1+1; omega,by show s.2.1+1≤n; omega,?_,?_⟩,?_⟩
  ·show ((bs (sb (bs s.1++ [(bs a)[k]]))).length:Int)=s.2.1+1
   rw [hbs,List.length_append]
   simp only [List.length_cons,List.length_nil]
   omega
  ·show ∀ y∈bs (sb (bs s.1++ [(bs a)[k]])),y∈bs a
   rw [hbs]
   intro y hy
   rcases List.mem_append.1 hy with hy | hy
   ·exact i5 y hy
   ·rw [List.mem_singleton] at hy
    subst hy
    exact List.getElem_mem hka
  ·show (n - (s.2.1+1)).toNat<(n - s.2.1).toNat
   omega
 ·rw [decide_eq_false hs,cond_false]
  exact .inr ⟨_,O,i1,by show ((bs s.1).length:Int)=n; omega,i5⟩
def okR (b:Int) (l:List zB):Prop:=∀ x∈l,(0≤x.Key∧x.Key≤b)∧DK x.Value∧x.Value.length≤29
theorem okR.add {b:Int} {l:List zB} (h:okR b l) {x:zB} (hx:(0≤x.Key∧x.Key≤b)∧DK x.Value∧x.Value.length≤29):okR b (l++ [x]):=fun y hy=>by
 rcases List.mem_append.1 hy with hy | hy
 ·exact h y hy
 ·rw [List.mem_singleton] at hy; subst hy; exact hx
theorem zUD {σ τ:Type} {X:Option (vM σ τ)} {P:σ→Prop} (h:∃ r,X=some r∧∃ s',r= .next s'∧P s'):∃ s',X=some (.next s')∧P s':=by
 obtain ⟨_,h1,s',rfl,h2⟩:=h
 exact ⟨s',h1,h2⟩
theorem QT.trans {d e g:zA} (h:QT d e) (k:QT e g):QT d g:=⟨k.ok,k.size.trans h.size,k.AY.trans h.AY,k.BU.trans h.BU,k.len.trans h.len⟩
structure MX (d:zA) (s:yD) (f:Nat):Prop where
 ok:FQ d
 size:1024≤d.size
 first:f+1<d.AY.length
 down:d.down=false
 rel:RJ s f (BQ d f)
theorem MX.rq {d:zA} {s:yD} {f:Nat} (h:MX d s f):JZ (BQ d f).K:=zRm h.ok f
theorem Lj {d:zA} (h:FQ d) (hd:d.down=false) (hz:1024≤d.size) {f:Nat} (hf:f+1<d.AY.length):∃ s,wX d (f:Int)=some (d,some s,0)∧MX d s f:=by
 obtain ⟨s,h1,h2⟩:=zUw h hd hz hf
 exact ⟨s,h1,h,hz,hf,hd,h2⟩
theorem MX.all {d:zA} {s:yD} {f:Nat} (h:MX d s f) (e:zA):vF s=some (BQ d f).K:=zVW h.rel h.rq e
structure zZb (d:zA) (s:yD) (f:Nat) (l:List zB) (r:yD × zA × Int):Prop where
 like:QT d r.2.1
 val:r.2=(OU (BQ d f) d f l).2
 cases:(r.2.2=0∧MX r.2.1 r.1 f∧jO l=0∧(BQ r.2.1 f).K=vH (BQ d f).K l∧(BQ r.2.1 f).gen≤(BQ d f).gen+1)∨
  ((r.2.2=1∨r.2.2=3∨r.2.2=7)∧r.2.1=d∧RJ r.1 f (BQ d f))∨
  (r.2.2=10∧r.2.1.down=true∧r.1=Dk∧jO l=0∧((BQ r.2.1 f).K=(BQ d f).K∨(BQ r.2.1 f).K=vH (BQ d f).K l)∧(BQ r.2.1 f).gen≤(BQ d f).gen+1)
 calm:d.left=0→r.2.2≠10∧r.2.1.left=0
 done:jO l=0→(vH (BQ d f).K l).length≤32→(BQ d f).gen<2147483648→r.2.2=0∨r.2.2=10
def jh (l:List zB):Prop:=l.length≤1000000∧∀ x∈l,0≤x.Key∧x.Key≤255∧DK x.Value
theorem okR.jh {b:Int} {l:List zB} (h:okR b l) (hb:b≤255) (hl:l.length≤1000000):jh l:=⟨hl,fun x hx=>by obtain ⟨h1,h2,h3⟩:=h x hx; exact ⟨h1.1,by omega,h2⟩⟩
theorem MX.upd {d:zA} {s:yD} {f:Nat} (h:MX d s f) {l:List zB} (hl:jh l) (hsx:(vH (BQ d f).K l).length≤32→(vH (BQ d f).K l).length≤jG:=by exact fun h=>Nat.le_trans h (by decide)):∃ r,xT s l d=some r∧zZb d s f l r:=by
 have hO:=dS h.ok h.size h.first
 obtain ⟨s',h1,h2⟩:=zPB h.rel hO h.ok h.size h.first hl.1 hl.2 hsx
 have hU:=zXe h.ok h.down h.size h.first rfl hl.2
 refine ⟨_,h1,hU.like,O,?_,fun hc=>?_,fun h3 h4 h5=>zSk h.ok h.down h.size h.first rfl hl.2 h3 h4 h5⟩
 ·rcases hU.cases with ⟨a1,a2,a3,a4,a5,a6⟩ | ⟨a1,a2,a3⟩ | ⟨a1,a2,a3,a4,a5,a6⟩
  ·refine .inl ⟨a1,⟨hU.like.ok,by rw [hU.like.size]; exact h.size,by rw [hU.like.AY]; exact h.first,a2,?_⟩,a4,a5,a6⟩
   rw [a3] at h2
   exact h2
  ·refine .inr (.inl ⟨a1,a3,?_⟩)
   rw [a2] at h2
   exact h2
  ·refine .inr (.inr ⟨a1,a2,?_,a4,a5,a6⟩)
   rw [a3] at h2
   exact h2
 ·have:=zPP hc h.down (BQ d f) f l
  exact ⟨this.1,this.2.1⟩
theorem zOP:∀ {K:List zB} {a b:Int},Asc K→(∀ x∈K,a≤x.Key∧x.Key≤b)→a≤b+1→(K.length:Int)≤b+1 - a
 | [],a,b,_,_,h=>by simp; omega
 | x::r,a,b,h,hk,_=>by
  have hp:=List.pairwise_cons.1 h
  have hx:=hk x (by simp)
  have:=zOP (a:=x.Key+1) (b:=b) hp.2 (fun y hy=>⟨by have:=hp.1 y hy; omega,(hk y (by simp [hy])).2⟩) (by omega)
  rw [List.length_cons]
  omega
structure Fil (d:zA) (s:yD) (K:List zB) (g:Int):Prop where
 sto:MX d s 0
 size:d.size=1024
 AY:d.AY.length=3
 left:d.left=0
 list:(BQ d 0).K=K
 gen:(BQ d 0).gen≤g
 keys:∀ x∈K,x.Key≤26
def ji (l:List zB):Prop:=(∀ x∈l,(0≤x.Key∧x.Key≤255)∧DK x.Value∧x.Value.length≤28∧(x.Delete=true→x.Value= []))∧l.Pairwise fun a b=>a.Key≠b.Key
theorem zIA:∀ {l:List zB} {seen:List Int},ji l→(∀ x∈l,x.Key∉seen)→TL seen l=0
 | [],_,_,_=>rfl
 | x::r,seen,h,hs=>by
  have hx:=h.1 x (by simp)
  have hp:=List.pairwise_cons.1 h.2
  unfold TL
  rw [if_neg (fun hb=>by
   rcases hb with hb | ⟨hb,hb2⟩
   ·omega
   ·rw [hx.2.2.2 hb] at hb2; simp at hb2),if_neg (hs x (by simp))]
  refine zIA ⟨fun y hy=>h.1 y (by simp [hy]),hp.2⟩ fun y hy hm=>?_
  rcases List.mem_cons.1 hm with hm | hm
  ·exact hp.1 y hy hm.symm
  ·exact hs y (by simp [hy]) hm
theorem zJj {l:List zB} (h:ji l) (hl:l.length≤32):jO l=0:=by
 unfold jO
 rw [if_neg (by omega)]
 exact zIA h fun x _ h=>by cases h
theorem ji.jh {l:List zB} (h:ji l) (hl:l.length≤1000000):jh l:=⟨hl,fun x hx=>⟨(h.1 x hx).1.1,(h.1 x hx).1.2,(h.1 x hx).2.1⟩⟩
structure Cut (d:zA) (f:Nat) (l:List zB) (r:yD × zA × Int) (t:yD):Prop where
 err:r.2.2=0∧r.2.1.down=false∧MX r.2.1 r.1 f∨r.2.2=10∧r.2.1.down=true∧r.1=Dk
 open_:wX (XL r.2.1) (f:Int)=some (XL r.2.1,some t,0)
 sto:MX (XL r.2.1) t f
 list:(BQ (XL r.2.1) f).K=vH (BQ d f).K l∨r.2.2=10∧(BQ (XL r.2.1) f).K=(BQ d f).K
 gen:(BQ (XL r.2.1) f).gen≤(BQ d f).gen+1
 size:r.2.1.size=d.size
 AY:r.2.1.AY.length=d.AY.length
 val:r.2=(OU (BQ d f) d f l).2
theorem MX.cut {d:zA} {s:yD} {f:Nat} (h:MX d s f) {l:List zB} (hl:ji l) (h32:l.length≤32) (hK:(vH (BQ d f).K l).length≤32) (hg:(BQ d f).gen<2147483648) (hsx:(vH (BQ d f).K l).length≤32→(vH (BQ d f).K l).length≤jG:=by exact fun h=>Nat.le_trans h (by decide)):∃ r,xT s l d=some r∧∃ t,Cut d f l r t:=by
 obtain ⟨r,h1,h2⟩:=h.upd (hl.jh (by omega)) hsx
 refine ⟨r,h1,?_⟩
 have ok:=h2.like.ok
 obtain ⟨t,h3,h4⟩:=Lj (zTv ok) rfl (by show 1024≤r.2.1.size; rw [h2.like.size]; exact h.size) (f:=f) (by show f+1<r.2.1.AY.length; rw [h2.like.AY]; exact h.first)
 have hd:=h2.done (zJj hl h32) hK hg
 refine ⟨t,?_⟩
 rcases h2.cases with ⟨a1,a2,a3,a4,a5⟩ | ⟨a1,_⟩ | ⟨a1,a2,a3,a4,a5,a6⟩
 ·exact ⟨.inl ⟨a1,a2.down,a2⟩,h3,h4, .inl (by rw [aN]; exact a4),by rw [aN]; exact a5,h2.like.size,h2.like.AY,h2.val⟩
 ·omega
 ·refine ⟨.inr ⟨a1,a2,a3⟩,h3,h4,?_,by rw [aN]; exact a6,h2.like.size,h2.like.AY,h2.val⟩
  rw [aN]
  rcases a5 with a5 | a5
  ·exact .inr ⟨a1,a5⟩
  ·exact .inl a5
theorem Cut.calm {d:zA} {f:Nat} {l:List zB} {r:yD × zA × Int} {t:yD} (h:Cut d f l r t):(XL r.2.1).left=0:=rfl
theorem zIL:∀ (b:List Int) (d:zA) (i p:Nat),p<i∨i+b.length≤p→(qY d i b).1.bytes[p]? =d.bytes[p]?
 | [],d,i,p,_=>rfl
 | x::b,d,i,p,h=>by
  simp only [List.length_cons] at h
  unfold qY
  split
  ·show ((xK d).1.bytes.set i _)[p]? =_
   rw [List.getElem?_set_ne (by omega),wZ]
  ·rw [zIL b _ (i+1) p (by omega)]
   show ((xK d).1.bytes.set i _)[p]? =_
   rw [List.getElem?_set_ne (by omega),wZ]
theorem zJy {d:zA} {at_:Int} {b:List Int} {p:Nat} (h:(p:Int)<at_∨at_+(b.length:Int)≤(p:Int)):(zO d at_ b).1.bytes[p]? =d.bytes[p]?:=by
 unfold zO
 split
 ·rfl
 ·split
  ·exact zIL _ _ _ _ (by omega)
  ·rfl
theorem zSH {d e:zA} {k:Nat} (hz:e.size=d.size) (h:∀ p,k*d.size.toNat≤p→p<k*d.size.toNat+d.size.toNat→e.bytes[p]? =d.bytes[p]?):yU e k=yU d k:=by
 unfold yU
 rw [hz]
 apply List.ext_getElem?
 intro j
 rw [List.getElem?_take,List.getElem?_take]
 split
 ·rename_i hj
  rw [List.getElem?_drop,List.getElem?_drop]
  exact h _ (by omega) (by omega)
 ·rfl
theorem zLw {o o':OS} {r:zA × Int}:(dR o o' r).2.1=r.1:=by
 unfold dR
 split
 ·rfl
 ·split <;> rfl
theorem zSd {d:zA} {f:Nat} {l:List zB} (h:FQ d) (hd:d.down=false) (hz:1024≤d.size) (hf:f+1<d.AY.length) (hl:∀ x∈l,0≤x.Key∧x.Key≤255∧DK x.Value) {j:Nat} (hj:f+1<j) (jf:j<d.AY.length):
  yU (OU (BQ d f) d f l).2.1 j=yU d j:=by
 have hO:=dS h hz hf
 unfold OU
 split
 ·rfl
 split
 ·rfl
 rename_i hc
 split
 ·rfl
 split
 ·rfl
 rename_i h32
 split
 ·rename_i hap
  rw [zLw]
  have hr:=jK (La (by simpa using hc)).1 (Lh hl (by simpa using hc))
  refine zSH (Yb h hr _).2.1 fun p h1 h2=>zJy (.inr ?_)
  have ha:=hO.act
  have ht:=hO.tail
  have hs:=h.size
  have hm:(f+(BQ d f).act.toNat)*d.size.toNat+d.size.toNat≤j*d.size.toNat:=by
   rw [←Nat.succ_mul]
   exact Nat.mul_le_mul_right _ (by omega)
  omega
 split
 ·rfl
 ·rw [zLw]
  have hK:=hO.K.all (Lh hl (by simpa using hc)) (by omega)
  have hot:rD (BQ d f)≤1:=by unfold rD; split <;> omega
  rcases Za (o:=BQ d f) h hd hz hf hK with ⟨_,_,ht⟩ | ⟨_,_,c,ht,_⟩
  ·exact ht.YT j (by omega) jf
  ·exact ht.YT j (by omega) jf
theorem MX.frame {d e:zA} {s:yD} {f:Nat} (h:MX d s f) (he:FQ e) (hz:e.size=d.size) (hw:e.AY.length=d.AY.length) (hd:e.down=false) (h0:yU e f=yU d f) (h1:yU e (f+1)=yU d (f+1)):MX e s f:=by
 have ho:BQ e f=BQ d f:=by unfold BQ; rw [h0,h1]
 exact ⟨he,by rw [hz]; exact h.size,by rw [hw]; exact h.first,hd,by rw [ho]; exact h.rel⟩
theorem MX.keep {d:zA} {s:yD} {f:Nat} (h:MX d s f) (h0:d.left=0) {l:List zB} (hl:ji l) (h32:l.length≤32) (hK:(vH (BQ d f).K l).length≤32) (hg:(BQ d f).gen<2147483648):
  ∃ r,xT s l d=some r∧r.2.2=0∧MX r.2.1 r.1 f∧(BQ r.2.1 f).K=vH (BQ d f).K l∧(BQ r.2.1 f).gen≤(BQ d f).gen+1∧QT d r.2.1∧r.2.1.left=0∧∀ j,f+1<j→j<d.AY.length→yU r.2.1 j=yU d j:=by
 have hU:=hl.jh (by omega)
 obtain ⟨r,h1,h2⟩:=h.upd hU
 have hd:=h2.done (zJj hl h32) hK hg
 have hc:=h2.calm h0
 have hv:r.2.1=(OU (BQ d f) d f l).2.1:=by rw [h2.val]
 rcases h2.cases with ⟨a1,a2,a3,a4,a5⟩ | ⟨a1,_⟩ | ⟨a1,_⟩
 ·exact ⟨r,h1,a1,a2,a4,a5,h2.like,hc.2,fun j hj jf=>by rw [hv]; exact zSd h.ok h.down h.size h.first hU.2 hj jf⟩
 ·omega
 ·exact absurd a1 hc.1
end Go.Proofs.YtccooahdinmfmaaGreatDoor
end
