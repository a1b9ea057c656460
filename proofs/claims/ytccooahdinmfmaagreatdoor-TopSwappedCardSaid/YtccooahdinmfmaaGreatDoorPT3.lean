/-
  Texts of this seat, put together: rules, walks, plain laws.
  Conditions: none.
-/
import Derived.Test.YtccooahdinmfmaaGreatDoorPT2
noncomputable section
namespace Go.Proofs.YtccooahdinmfmaaGreatDoor
open Go IntKind
set_option linter.unusedVariables false
set_option linter.unusedSimpArgs false
set_option linter.unusedSectionVars false
set_option maxHeartbeats 4000000
set_option maxRecDepth 10000
theorem zXE:BV Tryz.prog 192:=en Tryz.func192 (by kernel_rfl)
def eH (CU:Int):Option Int:=
 bnd ((bif decide (CU≥4294967296) then (some (xP .u64 CU 32,32)) else (some (CU,0)):Option (Int × Int))) fun o1=>bnd ((bif decide (o1.1≥65536) then (some (xP .u64 o1.1 16,wrap .i64 (o1.2+16))) else (some (o1.1,o1.2)):Option (Int × Int))) fun o2=>bif decide (o2.1≥256) then (bnd (DU (⟨#[0,1,2,2,3,3,3,3,4,4,4,4,4,4,4,4,5,5,5,5,5,5,5,5,5,5,5,5,5,5,5,5,6,6,6,6,6,6,6,6,6,6,6,6,6,6,6,6,6,6,6,6,6,6,6,6,6,6,6,6,6,6,6,6,7,7,7,7,7,7,7,7,7,7,7,7,7,7,7,7,7,7,7,7,7,7,7,7,7,7,7,7,7,7,7,7,7,7,7,7,7,7,7,7,7,7,7,7,7,7,7,7,7,7,7,7,7,7,7,7,7,7,7,7,7,7,7,7,8,8,8,8,8,8,8,8,8,8,8,8,8,8,8,8,8,8,8,8,8,8,8,8,8,8,8,8,8,8,8,8,8,8,8,8,8,8,8,8,8,8,8,8,8,8,8,8,8,8,8,8,8,8,8,8,8,8,8,8,8,8,8,8,8,8,8,8,8,8,8,8,8,8,8,8,8,8,8,8,8,8,8,8,8,8,8,8,8,8,8,8,8,8,8,8,8,8,8,8,8,8,8,8,8,8,8,8,8,8,8,8,8,8,8,8,8,8,8,8,8,8,8,8,8,8,8,8]⟩) (wrap .u8 (xP .u64 o2.1 8))) fun y1=>some (wrap .i64 ((wrap .i64 (o2.2+8))+(wrap .i64 y1)))) else (bnd (DU (⟨#[0,1,2,2,3,3,3,3,4,4,4,4,4,4,4,4,5,5,5,5,5,5,5,5,5,5,5,5,5,5,5,5,6,6,6,6,6,6,6,6,6,6,6,6,6,6,6,6,6,6,6,6,6,6,6,6,6,6,6,6,6,6,6,6,7,7,7,7,7,7,7,7,7,7,7,7,7,7,7,7,7,7,7,7,7,7,7,7,7,7,7,7,7,7,7,7,7,7,7,7,7,7,7,7,7,7,7,7,7,7,7,7,7,7,7,7,7,7,7,7,7,7,7,7,7,7,7,7,8,8,8,8,8,8,8,8,8,8,8,8,8,8,8,8,8,8,8,8,8,8,8,8,8,8,8,8,8,8,8,8,8,8,8,8,8,8,8,8,8,8,8,8,8,8,8,8,8,8,8,8,8,8,8,8,8,8,8,8,8,8,8,8,8,8,8,8,8,8,8,8,8,8,8,8,8,8,8,8,8,8,8,8,8,8,8,8,8,8,8,8,8,8,8,8,8,8,8,8,8,8,8,8,8,8,8,8,8,8,8,8,8,8,8,8,8,8,8,8,8,8,8,8,8,8,8,8]⟩) (wrap .u8 o2.1)) fun y2=>some (wrap .i64 (o2.2+(wrap .i64 y2))))
theorem zDp {CU r} (h:eH CU=some r):
    AX Tryz.prog 192 [.int .u64 CU] [] (Val (.int .i64 r)):=by
 refine AX.intro Tryz.func192 O O O fun w R=>?_;refine .ae O<|.seq<|.bd h fun o1 hj1 h=>.cu 0 [.s 0 (.int .u64 o1.1), .s 2 (.int .i64 o1.2)] [] O O ?_ ?_
 ·refine .ab [0,2,4] O<|.cb hj1 O (fun hj1=>?_) (fun hj1=>?_)
  ·refine .ab [0] O<|.region ?_;cases hj1;exact .be O<|.hU O zw
  cases hj1;exact .sk<|.hU O zw
 refine .seq<|.bd h fun o2 hj2 h=>.cu 0 [.s 0 (.int .u64 o2.1), .s 2 (.int .i64 o2.2)] [] O O ?_ ?_
 ·refine .ab [0,2,8] O<|.cb hj2 O (fun hj2=>?_) (fun hj2=>?_)
  ·refine .ab [0,2] O<|.region ?_;cases hj2;exact .be O<|.hU O zw
  cases hj2;exact .sk<|.hU O zw
 refine .seq<|.ab [0,2,14] O<|.cb h O (fun h=>?_) (fun h=>?_)
 ·refine .ab [0,2] O<|.region<|.b [0,2] O<|.a 3 O<|.bd h fun y1 hy1 h=>.DU O O O O O hy1<|.b [2] O ?_;cases h;exact .rv O O ⟨O,O⟩ zw
 refine .sk<|.pr [0,2] O<|.a 3 O<|.bd h fun y2 hy2 h=>.DU O O O O O hy2<|.b [2] O ?_;cases h;exact .rv O O ⟨O,O⟩ zw
theorem zSO:BV Tryz.prog 161:=en Tryz.func161 (by kernel_rfl)
def pP (CU:Int):Option Int:=
 bnd (eH CU) fun r1=>some r1
theorem iE {CU r} (h:pP CU=some r):
    AX Tryz.prog 161 [.int .u64 CU] [] (Val (.int .i64 r)):=by
 refine AX.intro Tryz.func161 O O O fun w R=>?_;refine .ab [0] O<|.seq<|.FN O<|.sk<|.a 1 O<|.bd h fun r1 hr1 h=>.cv [] (zDp hr1) zXE O<|.b [2] O ?_;cases h;exact .rv O O ⟨O,O⟩ zw
theorem zRR:BV Tryz.prog 210:=en Tryz.func210 (by kernel_rfl)
def rS (CU:Int):Option Bool:=
 some (CU != CU)
theorem fT {CU r} (h:rS CU=some r):
    AX Tryz.prog 210 [.int .u8 CU] [] (Val (.bool r)):=by
 unfold rS at h
 refine AX.intro Tryz.func210 O O O fun w R=>?_;refine .ab [0] O<|.ab [2] O ?_;cases h;exact .rv O O ⟨O,O⟩ zw
theorem lL:BV Tryz.prog 188:=en Tryz.func188 (by kernel_rfl)
def zH (CU:Int) (IQ:Int):Option Bool:=
 bnd ((bnd (rS CU) fun r1=>bif r1 then (bnd (rS IQ) fun r2=>bif !r2 then (some true) else (some (decide (CU<IQ)))) else (some (decide (CU<IQ))):Option Bool)) fun o1=>some o1
theorem xF {CU IQ r} (h:zH CU IQ=some r):
    AX Tryz.prog 188 [.int .u8 CU, .int .u8 IQ] [] (Val (.bool r)):=by
 refine AX.intro Tryz.func188 O O O fun w R=>?_;refine .ab [0,1] O<|.seq<|.bd h fun o1 hj1 h=>.cu 0 [.s 4 (.bool o1)] [] O O ?_ ?_
 ·refine .region<|.p O O<|.bd hj1 fun r1 hr1 hj1=>.cv [] (fT hr1) zRR O<|.p O O<|.gs 7 hj1 O (fun hj1=>?_) (fun hj1=>?_)
  ·refine .n 1 O<|.BR O O<|.bd hj1 fun r2 hr2 hj1=>.cv [] (fT hr2) zRR O<|.n 3 O<|.gs 12 hj1 O (fun hj1=>?_) (fun hj1=>?_)
   ·cases hj1;exact .be O<|.hU O zw
   cases hj1;exact .be O<|.hU O zw
  cases hj1;exact .be O<|.hU O zw
 cases h;exact .rv O O ⟨O,O⟩ zw
theorem zWn:BV Tryz.prog 182:=en Tryz.func182 (by kernel_rfl)
def xM (data:(List Int)) (BB:Int) (BO:Int):Option (List Int):=
 bnd (zI (τ:=List Int) (fun (s1:List Int × Int)=>bif decide (s1.2<BO) then (bnd (zI (τ:=List Int) (fun (s2:List Int × Int)=>bnd ((bif decide (s2.2>BB) then (bnd (AU s2.1 s2.2) fun x1=>bnd (AU s2.1 (wrap .i64 (s2.2 - 1))) fun x2=>bnd (zH x1 x2) fun r1=>some r1) else (some false):Option Bool)) fun o3=>bif o3 then (bnd (AU s2.1 (wrap .i64 (s2.2 - 1))) fun x3=>bnd (AU s2.1 (wrap .i64 (s2.2 - 1))) fun x4=>bnd (AU s2.1 s2.2) fun x5=>bnd (AU s2.1 s2.2) fun x6=>bnd (xJ s2.1 s2.2 x4) fun l1=>bnd (AU l1 (wrap .i64 (s2.2 - 1))) fun x7=>bnd (xJ l1 (wrap .i64 (s2.2 - 1)) x5) fun l2=>some (.next (l2,wrap .i64 (s2.2 - 1)))) else (some (.done s2.1))) (s1.1,s1.2)) fun o2=>some (.next (o2,wrap .i64 (s1.2+1)))) else (some (.done s1.1))) (data,wrap .i64 (BB+1))) fun o1=>some o1
theorem nW {data BB BO A1 c1 r} (h:xM data BB BO=some r):
    AX Tryz.prog 182 [.slice A1 data.length c1, .int .i64 BB, .int .i64 BO] [.res (zD AP 5 A1 c1 data)] (fun v F=>v= .tuple #[]∧F= [.res (zD AP 5 A1 c1 r)]):=by
 refine AX.intro Tryz.func182 O O O fun w R=>?_;refine .ab [0,1,2,6] O<|.bd h fun o1 hl1 h=>.DV<|.cu 1 [] [.res (zD AP 5 A1 c1 o1)] O O ?_ ?_
 ·refine .block<|.BH hl1 1 (fun (s1:List Int × Int) (e1:Unit)=>[.s 0 (.slice A1 s1.1.length c1),1,2, .s 6 (.int .i64 s1.2)]) (fun s1 e1=>[.res (zD AP 5 A1 c1 s1.1)]) O O () (zb O) (fun _ w=>w) ?_;rintro s1 e1 st1 hm1 hd1 h1;refine .seq<|.ab [0,1,2,6,12] O<|.cb h1 O (fun h1=>?_) (fun h1=>?_)
  ·refine .sk<|.pr [0,1,2,6] O<|.seq<|.block<|.ab [0,1,2,6,7] O<|.bd h1 fun o2 hl2 h1=>.DV<|.cu 1 [.s 0 (.slice A1 o2.length c1),1,2,6] [.res (zD AP 5 A1 c1 o2)] O O ?_ ?_
   ·refine .block<|.BH hl2 1 (fun (s2:List Int × Int) (e3:Unit)=>[.s 0 (.slice A1 s2.1.length c1),1,2,6, .s 7 (.int .i64 s2.2)]) (fun s2 e3=>[.res (zD AP 5 A1 c1 s2.1)]) O O () (zb O) (fun _ w=>w) ?_;rintro s2 e3 st2 hm2 hd2 h2;refine .seq<|.seq<|.bd h2 fun o3 hj1 h2=>.cu 0 [0,1,2,6,7, .s 30 (.bool o3)] [] O O ?_ ?_
    ·refine .regionF mixed (by kernel_rfl)<|.n 4 O<|.gs 19 hj1 O (fun hj1=>?_) (fun hj1=>?_)
     ·refine .n 2 O<|.BR O O<|.bd hj1 fun x1 hx1 hj1=>.II hx1 0 O fun g1 hA=>?_;subst hA;refine .BR O O<|.EZ 0 hx1 O O (.head _) O O<|.n 3 O<|.BR O O<|.bd hj1 fun x2 hx2 hj1=>.II hx2 0 O fun g2 hA=>?_;cases hA;refine .BR O O<|.EZ 0 hx2 O O (.head _) O O<|.BR O O<|.bd hj1 fun r1 hr1 hj1=>.cv [] (xF hr1) lL O ?_;cases hj1;exact .beq O<|.hU O zw
     cases hj1;exact .beq O<|.hU O zw
    refine .cb h2 O (fun h2=>?_) (fun h2=>?_)
    ·refine .sk<|.pr [0,1,2,6,7] O<|.seq<|.block<|.bd h2 fun x3 hx3 h2=>.JU (.head _) hx3 fun g3 hA=>?_;subst hA;refine .BG (iN [0,4,8,12,16,20,24,28,33,37,40,44,49,53,57,63,65,71] .nil) _ mixed (by kernel_rfl) (zl [] 1 O)<|.yn 8 O<|.bd h2 fun x4 hx4 h2=>.DR (Rd.FO (E:=AP) hx4 O O O O O O O) O<|.DR (Rd.EZ 0 hx4 O (.head _) O O) O<|.yn 2 O<|.bd h2 fun x5 hx5 h2=>.DR (Rd.FO (E:=AP) hx5 O O O O O O O) O<|.DR (Rd.EZ 0 hx5 O (.head _) O O) O<|.bd h2 fun x6 hx6 h2=>.DR (Rd.FO (E:=AP) hx6 O O O O O O O) O<|.BZ<|.bd h2 fun l1 hl1 h2=>.IY 0 hx6 hl1 O O .z O O O O O ?_;refine .ss 0 (zF hl1) ?_;refine .ss 33 (zF hl1) ?_;refine .ss 35 (zF hl1) ?_;refine .ss 38 (zF hl1) ?_;refine .ss 43 (zF hl1)<|.xk (zl [] 1 O)<|.bd h2 fun x7 hx7 h2=>.DR (Rd.FO (E:=AP) hx7 O O O O O O O) O<|.BZ<|.bd h2 fun l2 hl2 h2=>.IY 0 hx7 hl2 O O .z O O O O O ?_;refine .ss 0 (zF hl2) ?_;refine .ss 33 (zF hl2) ?_;refine .ss 35 (zF hl2) ?_;refine .ss 38 (zF hl2) ?_;refine .ss 43 (zF hl2)<|.xk (zl [] 1 O)<|.BX<|.BF<|.AB<|.pr [0,1,2,6,7] O<|.region ?_;cases h2;exact .be O<|.ag () hm2 O zw
    refine .xq O ?_;cases h2;cases hd2 _ rfl
    exact .AB<|.hU O zw
   refine .BF<|.AB<|.region ?_;cases h1;exact .be O<|.ag () hm1 O zw
  refine .xq O ?_;cases h1;cases hd1 _ rfl
  exact .AB<|.LJ () trivial zw
 cases h;exact .KT Tryz.results182 .nil O _ ⟨O,O⟩ (fun _ w=>w)
theorem zSv:BV Tryz.prog 205:=en Tryz.func205 (by kernel_rfl)
def yK (data:(List Int)) (RG:Int) (KU:Int) (first:Int):Option (List Int):=
 bnd (zI (τ:=(List Int) ⊕ List Int) (fun (s1:List Int × Int)=>bif decide ((wrap .i64 ((wrap .i64 (2*s1.2))+1))≥KU) then (some (.done (.inr s1.1))) else (bnd ((bnd ((bif decide ((wrap .i64 ((wrap .i64 ((wrap .i64 (2*s1.2))+1))+1))<KU) then (bnd (AU s1.1 (wrap .i64 (first+(wrap .i64 ((wrap .i64 (2*s1.2))+1))))) fun x1=>bnd (AU s1.1 (wrap .i64 ((wrap .i64 (first+(wrap .i64 ((wrap .i64 (2*s1.2))+1))))+1))) fun x2=>bnd (zH x1 x2) fun r1=>some r1) else (some false):Option Bool)) fun o4=>bif o4 then (some (wrap .i64 ((wrap .i64 ((wrap .i64 (2*s1.2))+1))+1))) else (some (wrap .i64 ((wrap .i64 (2*s1.2))+1))):Option Int)) fun o3=>bnd (AU s1.1 (wrap .i64 (first+s1.2))) fun x3=>bnd (AU s1.1 (wrap .i64 (first+o3))) fun x4=>bnd (zH x3 x4) fun r2=>bif !r2 then (some (.done (.inl s1.1))) else (bnd (AU s1.1 (wrap .i64 (first+o3))) fun x5=>bnd (AU s1.1 (wrap .i64 (first+s1.2))) fun x6=>bnd (AU s1.1 (wrap .i64 (first+s1.2))) fun x7=>bnd (xJ s1.1 (wrap .i64 (first+s1.2)) x5) fun l1=>bnd (AU l1 (wrap .i64 (first+o3))) fun x8=>bnd (xJ l1 (wrap .i64 (first+o3)) x6) fun l2=>some (.next (l2,o3))))) (data,RG)) fun o1=>wN o1 fun o2=>some o2
theorem qP {data RG KU first A1 c1 r} (h:yK data RG KU first=some r):
    AX Tryz.prog 205 [.slice A1 data.length c1, .int .i64 RG, .int .i64 KU, .int .i64 first] [.res (zD AP 5 A1 c1 data)] (fun v F=>v= .tuple #[]∧F= [.res (zD AP 5 A1 c1 r)]):=by
 refine AX.intro Tryz.func205 O O O fun w R=>?_;refine .ab [0,2,3,8] O<|.bd h fun o1 hl1 h=>.DV<|.EJ 1 (fun (o2:List Int) (e2:Unit)=>[]) (fun o2 e2=>[.res (zD AP 5 A1 c1 o2)]) O O (fun o2=>o1= .inr o2) ?_ ?_
 ·refine .block<|.BH hl1 1 (fun (s1:List Int × Int) (e1:Unit)=>[.s 0 (.slice A1 s1.1.length c1),2,3, .s 8 (.int .i64 s1.2)]) (fun s1 e1=>[.res (zD AP 5 A1 c1 s1.1)]) O O () (zb O) (fun _ w=>w) ?_;rintro s1 e1 st1 hm1 hd1 h1;refine .block<|.ab [0,2,3,8,9] O<|.seq<|.ab [0,2,3,8,9,16] O<|.cb h1 O (fun h1=>?_) (fun h1=>?_)
  ·refine .xq O ?_;cases h1;cases hd1 _ rfl
   exact .AB<|.DN s1.1 () O trivial zw
  refine .sk<|.pr [0,2,3,8,9] O<|.seq<|.bd h1 fun o3 hj1 h1=>.cu 0 [0,2,3,8, .s 9 (.int .i64 o3)] [] O O ?_ ?_
  ·refine .seq<|.bd hj1 fun o4 hj2 hj1=>.cu 0 [0,2,3,8,9, .s 36 (.bool o4)] [] O O ?_ ?_
   ·refine .regionF mixed (by kernel_rfl)<|.n 5 O<|.gs 21 hj2 O (fun hj2=>?_) (fun hj2=>?_)
    ·refine .n 4 O<|.BR O O<|.bd hj2 fun x1 hx1 hj2=>.II hx1 0 O fun g1 hA=>?_;subst hA;refine .BR O O<|.EZ 0 hx1 O O (.head _) O O<|.n 5 O<|.BR O O<|.bd hj2 fun x2 hx2 hj2=>.II hx2 0 O fun g2 hA=>?_;cases hA;refine .BR O O<|.EZ 0 hx2 O O (.head _) O O<|.BR O O<|.bd hj2 fun r1 hr1 hj2=>.cv [] (xF hr1) lL O ?_;cases hj2;exact .beq O<|.hU O zw
    cases hj2;exact .beq O<|.hU O zw
   refine .cb hj1 O (fun hj1=>?_) (fun hj1=>?_)
   ·refine .region ?_;cases hj1;exact .be O<|.hU O zw
   cases hj1;exact .sk<|.hU O zw
  refine .seq<|.seq<|.regionF mixed (by kernel_rfl)<|.n 4 O<|.bd h1 fun x3 hx3 h1=>.II hx3 0 O fun g3 hA=>?_;subst hA;refine .EZ 0 hx3 O O (.head _) O O<|.n 4 O<|.bd h1 fun x4 hx4 h1=>.II hx4 0 O fun g4 hA=>?_;cases hA;refine .EZ 0 hx4 O O (.head _) O O<|.bd h1 fun r2 hr2 h1=>.cv [] (xF hr2) lL O<|.bq [0,2,3,8,9,52] O<|.cb h1 O (fun h1=>?_) (fun h1=>?_)
  ·cases h1;cases hd1 _ rfl
   have h:some _=some _:=h;cases h;exact .rv O O ⟨O,O⟩ zw
  refine .sk<|.pr [0,2,3,8,9] O<|.seq<|.BG (iN [0,4,8,12,16,20,24,28,32,36,40,44,49,53,56,60,64,68,73,77,81,87,89,95] .nil) _ mixed (by kernel_rfl) (zl [] 1 O)<|.yn 12 O<|.bd h1 fun x5 hx5 h1=>.DR (Rd.FO (E:=AP) hx5 O O O O O O O) O<|.DR (Rd.EZ 0 hx5 O (.head _) O O) O<|.yn 4 O<|.bd h1 fun x6 hx6 h1=>.DR (Rd.FO (E:=AP) hx6 O O O O O O O) O<|.DR (Rd.EZ 0 hx6 O (.head _) O O) O<|.bd h1 fun x7 hx7 h1=>.DR (Rd.FO (E:=AP) hx7 O O O O O O O) O<|.BZ<|.bd h1 fun l1 hl1 h1=>.IY 0 hx7 hl1 O O .z O O O O O ?_;refine .ss 0 (zF hl1) ?_;refine .ss 53 (zF hl1) ?_;refine .ss 57 (zF hl1) ?_;refine .ss 61 (zF hl1) ?_;refine .ss 67 (zF hl1)<|.xk (zl [] 1 O)<|.bd h1 fun x8 JL h1=>.DR (Rd.FO (E:=AP) JL O O O O O O O) O<|.BZ<|.bd h1 fun l2 hl2 h1=>.IY 0 JL hl2 O O .z O O O O O ?_;refine .ss 0 (zF hl2) ?_;refine .ss 53 (zF hl2) ?_;refine .ss 57 (zF hl2) ?_;refine .ss 61 (zF hl2) ?_;refine .ss 67 (zF hl2)<|.xk (zl [] 1 O)<|.BX<|.AB<|.pr [0,2,3,9] O<|.region<|.n 2 O<|.done<|.BF ?_;cases h1;exact .AB<|.ag () hm1 O zw
 rintro o2 e2 ho;subst ho;have h:=IV h;cases h;exact .KT Tryz.results205 .nil O _ ⟨O,O⟩ (fun _ w=>w)
theorem zWi:BV Tryz.prog 183:=en Tryz.func183 (by kernel_rfl)
def wO (data:(List Int)) (BB:Int) (BO:Int):Option (List Int):=
 bnd (zI (τ:=List Int) (fun (s1:List Int × Int)=>bif decide (s1.2≥0) then (bnd (yK s1.1 s1.2 (wrap .i64 (BO - BB)) BB) fun r1=>bnd (yV s1.1.length r1) fun l1=>some (.next (r1,wrap .i64 (s1.2 - 1)))) else (some (.done s1.1))) (data,wrap .i64 ((wrap .i64 ((wrap .i64 (BO - BB)) - 1)).tdiv 2))) fun o1=>bnd (zI (τ:=List Int) (fun (s2:List Int × Int)=>bif decide (s2.2≥0) then (bnd (AU s2.1 (wrap .i64 (BB+s2.2))) fun x1=>bnd (AU s2.1 (wrap .i64 (BB+s2.2))) fun x2=>bnd (AU s2.1 BB) fun x3=>bnd (AU s2.1 BB) fun x4=>bnd (xJ s2.1 BB x2) fun l2=>bnd (AU l2 (wrap .i64 (BB+s2.2))) fun x5=>bnd (xJ l2 (wrap .i64 (BB+s2.2)) x3) fun l3=>bnd (yK l3 0 s2.2 BB) fun r2=>bnd (yV l3.length r2) fun l4=>some (.next (r2,wrap .i64 (s2.2 - 1)))) else (some (.done s2.1))) (o1,wrap .i64 ((wrap .i64 (BO - BB)) - 1))) fun o2=>some o2
theorem kS {data BB BO A1 c1 r} (h:wO data BB BO=some r):
    AX Tryz.prog 183 [.slice A1 data.length c1, .int .i64 BB, .int .i64 BO] [.res (zD AP 5 A1 c1 data)] (fun v F=>v= .tuple #[]∧F= [.res (zD AP 5 A1 c1 r)]):=by
 refine AX.intro Tryz.func183 O O O fun w R=>?_;refine .ab [0,1,2,6] O<|.ae O<|.ab [0,6,7,8] O<|.seq<|.ab [0,6,7,8,9] O<|.bd h fun o1 hl1 h=>.cu 1 [.s 0 (.slice A1 o1.length c1),6,7,8] [.res (zD AP 5 A1 c1 o1)] O O ?_ ?_
 ·refine .block<|.BH hl1 1 (fun (s1:List Int × Int) (e1:Unit)=>[.s 0 (.slice A1 s1.1.length c1),6,7,8, .s 9 (.int .i64 s1.2)]) (fun s1 e1=>[.res (zD AP 5 A1 c1 s1.1)]) O O () (zb O) (fun _ w=>w) ?_;rintro s1 e1 st1 hm1 hd1 h1;refine .seq<|.ab [0,6,7,8,9,19] O<|.cb h1 O (fun h1=>?_) (fun h1=>?_)
  ·refine .sk<|.pr [0,6,7,8,9] O<|.seq<|.block<|.region<|.n 4 O<|.bd h1 fun r1 hr1 h1=>.cq 1 [] [] 0 (qP hr1) zSv O<|.bd h1 fun l1 hl1 h1=>?_;refine .ss 0 (tT hl1) ?_;refine .ss 22 (tT hl1)<|.done<|.BF<|.AB<|.pr [0,6,7,8,9] O<|.region ?_;cases h1;exact .be O<|.ag () hm1 O zw
  refine .xq O ?_;cases h1;cases hd1 _ rfl
  exact .AB<|.hU O zw
 refine .ab [0,6,7,10] O<|.bd h fun o2 hl2 h=>.DV<|.cu 1 [] [.res (zD AP 5 A1 c1 o2)] O O ?_ ?_
 ·refine .block<|.BH hl2 1 (fun (s2:List Int × Int) (e3:Unit)=>[.s 0 (.slice A1 s2.1.length c1),6,7, .s 10 (.int .i64 s2.2)]) (fun s2 e3=>[.res (zD AP 5 A1 c1 s2.1)]) O O () (zb O) (fun _ w=>w) ?_;rintro s2 e3 st2 hm2 hd2 h2;refine .seq<|.ab [0,6,7,10,30] O<|.cb h2 O (fun h2=>?_) (fun h2=>?_)
  ·refine .sk<|.pr [0,6,7,10] O<|.seq<|.block<|.seq<|.bd h2 fun x1 hx1 h2=>.JU (.head _) hx1 fun g1 hA=>?_;subst hA;refine .BG (iN [0,4,8,12,16,20,24,28,32,36,41,45,48,52,57,61,65,71,73,79] .nil) _ mixed (by kernel_rfl) (zl [] 1 O)<|.yn 10 O<|.bd h2 fun x2 hx2 h2=>.DR (Rd.FO (E:=AP) hx2 O O O O O O O) O<|.DR (Rd.EZ 0 hx2 O (.head _) O O) O<|.yn 2 O<|.bd h2 fun x3 hx3 h2=>.DR (Rd.FO (E:=AP) hx3 O O O O O O O) O<|.DR (Rd.EZ 0 hx3 O (.head _) O O) O<|.bd h2 fun x4 hx4 h2=>.DR (Rd.FO (E:=AP) hx4 O O O O O O O) O<|.BZ<|.bd h2 fun l2 hl2 h2=>.IY 0 hx4 hl2 O O .z O O O O O ?_;refine .ss 0 (zF hl2) ?_;refine .ss 33 (zF hl2) ?_;refine .ss 35 (zF hl2) ?_;refine .ss 39 (zF hl2) ?_;refine .ss 45 (zF hl2)<|.xk (zl [] 1 O)<|.bd h2 fun x5 hx5 h2=>.DR (Rd.FO (E:=AP) hx5 O O O O O O O) O<|.BZ<|.bd h2 fun l3 hl3 h2=>.IY 0 hx5 hl3 O O .z O O O O O ?_;refine .ss 0 (zF hl3) ?_;refine .ss 33 (zF hl3) ?_;refine .ss 35 (zF hl3) ?_;refine .ss 39 (zF hl3) ?_;refine .ss 45 (zF hl3)<|.xk (zl [] 1 O)<|.BX<|.AB<|.pr [0,6,7,10] O<|.region<|.n 4 O<|.bd h2 fun r2 hr2 h2=>.cq 1 [] [] 0 (qP hr2) zSv O<|.bd h2 fun l4 hl4 h2=>?_;refine .ss 0 (tT hl4) ?_;refine .ss 51 (tT hl4)<|.done<|.BF<|.AB<|.pr [0,6,7,10] O<|.region ?_;cases h2;exact .be O<|.ag () hm2 O zw
  refine .xq O ?_;cases h2;cases hd2 _ rfl
  exact .AB<|.LJ () trivial zw
 cases h;exact .KT Tryz.results183 .nil O _ ⟨O,O⟩ (fun _ w=>w)
theorem zXC:BV Tryz.prog 206:=en Tryz.func206 (by kernel_rfl)
def tG (length:Int):Option Int:=
 bnd (pP (wrap .u64 length)) fun r1=>bnd (PG .u64 1 r1) fun q1=>some q1
theorem bA {length r} (h:tG length=some r):
    AX Tryz.prog 206 [.int .i64 length] [] (Val (.int .u64 r)):=by
 refine AX.intro Tryz.func206 O O O fun w R=>?_;refine .ab [0] O<|.a 2 O<|.bd h fun r1 hr1 h=>.cv [] (iE hr1) zSO O<|.bd h fun q1 hq1 h=>.shl O O O hq1<|.b [2] O ?_;cases h;exact .rv O O ⟨O,O⟩ zw
theorem zWm:BV Tryz.prog 207:=en Tryz.func207 (by kernel_rfl)
def vP (JC:Int):Option (Int × Int):=
 some (lI .u64 (lI .u64 (lI .u64 JC (yM .u64 JC 13)) (xP .u64 (lI .u64 JC (yM .u64 JC 13)) 7)) (yM .u64 (lI .u64 (lI .u64 JC (yM .u64 JC 13)) (xP .u64 (lI .u64 JC (yM .u64 JC 13)) 7)) 17),lI .u64 (lI .u64 (lI .u64 JC (yM .u64 JC 13)) (xP .u64 (lI .u64 JC (yM .u64 JC 13)) 7)) (yM .u64 (lI .u64 (lI .u64 JC (yM .u64 JC 13)) (xP .u64 (lI .u64 JC (yM .u64 JC 13)) 7)) 17))
theorem bT {JC BN r} (h:vP JC=some r):
    AX Tryz.prog 207 [.pointer (some ⟨BN,0,none⟩)] [.res (Box BN 311 [.int .u64 JC])] (fun v F=>v= .int .u64 r.2∧F= [.res (Box BN 311 [.int .u64 r.1])]):=by
 unfold vP at h
 refine AX.intro Tryz.func207 O O O fun w R=>?_;refine .ab [0] O<|.seq<|.BG (iN [0,4,9,12,16,21,24,28,32,39] .nil) _ mixed (by kernel_rfl) (zl [] 1 O)<|.yn 2 O<|.yx 0 0 O<|.yn 2 O<|.yx 0 0 O<|.yn 3 O<|.BZ<|.sb 0 0 O<|.xk (zl [] 1 O)<|.BX<|.AB<|.pr [0] O<|.seq<|.BG (iN [0,4,9,12,16,21,24,28,32,39] .nil) _ mixed (by kernel_rfl) (zl [] 1 O)<|.yn 2 O<|.yx 0 0 O<|.yn 2 O<|.yx 0 0 O<|.yn 3 O<|.BZ<|.sb 0 0 O<|.xk (zl [] 1 O)<|.BX<|.AB<|.pr [0] O<|.seq<|.BG (iN [0,4,9,12,16,21,24,28,32,39] .nil) _ mixed (by kernel_rfl) (zl [] 1 O)<|.yn 2 O<|.yx 0 0 O<|.yn 2 O<|.yx 0 0 O<|.yn 3 O<|.BZ<|.sb 0 0 O<|.xk (zl [] 1 O)<|.BX<|.AB<|.pr [0] O<|.a 2 O<|.lb 0 0 O<|.b [2] O ?_;cases h;exact .rv O O ⟨O,O⟩ zw
theorem zXL:BV Tryz.prog 184:=en Tryz.func184 (by kernel_rfl)
def yW (data:(List Int)) (BB:Int) (BO:Int):Option (List Int):=
 bif decide ((wrap .i64 (BO - BB))≥8) then (bnd (tG (wrap .i64 (BO - BB))) fun r1=>bnd (zI (τ:=List Int × Int) (fun (s1:List Int × Int × Int)=>bif decide (s1.2.1≤(wrap .i64 ((wrap .i64 (BB+(wrap .i64 ((wrap .i64 ((wrap .i64 (BO - BB)).tdiv 4))*2))))+1))) then (bnd (vP s1.2.2) fun r2=>bnd ((bif decide ((wrap .i64 (vL .u64 r2.2 (wrap .u64 (r1 - 1))))≥(wrap .i64 (BO - BB))) then (some (wrap .i64 ((wrap .i64 (vL .u64 r2.2 (wrap .u64 (r1 - 1)))) - (wrap .i64 (BO - BB))))) else (some (wrap .i64 (vL .u64 r2.2 (wrap .u64 (r1 - 1))))):Option Int)) fun o2=>bnd (AU s1.1 (wrap .i64 (BB+o2))) fun x1=>bnd (AU s1.1 (wrap .i64 (BB+o2))) fun x2=>bnd (AU s1.1 s1.2.1) fun x3=>bnd (AU s1.1 s1.2.1) fun x4=>bnd (xJ s1.1 s1.2.1 x2) fun l1=>bnd (AU l1 (wrap .i64 (BB+o2))) fun x5=>bnd (xJ l1 (wrap .i64 (BB+o2)) x3) fun l2=>some (.next (l2,wrap .i64 (s1.2.1+1),r2.1))) else (some (.done (s1.1,s1.2.2)))) (data,wrap .i64 ((wrap .i64 (BB+(wrap .i64 ((wrap .i64 ((wrap .i64 (BO - BB)).tdiv 4))*2)))) - 1),wrap .u64 (wrap .i64 (BO - BB)))) fun o1=>some o1.1) else (some data)
theorem nY {data BB BO A1 c1 r} (h:yW data BB BO=some r):
    AX Tryz.prog 184 [.slice A1 data.length c1, .int .i64 BB, .int .i64 BO] [.res (zD AP 5 A1 c1 data)] (fun v F=>v= .tuple #[]∧F= [.res (zD AP 5 A1 c1 r)]):=by
 refine AX.intro Tryz.func184 O O O fun w R=>?_;refine .ab [0,1,6] O<|.ab [0,1,6,15] O<|.cb h O (fun h=>?_) (fun h=>?_)
 ·refine .a 2 O<|.alloc O O fun g1=>.sb 0 0 O<|.b [0,1,6,7] O<|.a 1 O<|.bd h fun r1 hr1 h=>.cv [] (bA hr1) zXC O<|.b [0,1,6,7,8] O<|.ab [0,1,6,7,8,9] O<|.bd h fun o1 hl1 h=>.DV<|.cu 2 [] [.res (zD AP 5 A1 c1 o1.1)] O O ?_ ?_
  ·refine .block<|.BH hl1 2 (fun (s1:List Int × Int × Int) (e1:Unit)=>[.s 0 (.slice A1 s1.1.length c1),1,6,7,8, .s 9 (.int .i64 s1.2.1)]) (fun s1 e1=>[.res (Box g1 311 [.int .u64 s1.2.2]), .res (zD AP 5 A1 c1 s1.1)]) O O () (zb O) (fun _ w=>w) ?_;rintro s1 e1 st1 hm1 hd1 h1;refine .seq<|.ab [0,1,6,7,8,9,33] O<|.cb h1 O (fun h1=>?_) (fun h1=>?_)
   ·refine .sk<|.pr [0,1,6,7,8,9] O<|.seq<|.block<|.seq<|.region<|.bd h1 fun r2 hr2 h1=>.cq 2 [] [] 0 (bT hr2) zWm O<|.b [0,1,6,7,8,9,10] O<|.seq<|.bd h1 fun o2 hj1 h1=>.cu 0 [0,1,6,7,8,9, .s 10 (.int .i64 o2)] [] O O ?_ ?_
    ·refine .ab [0,1,6,7,8,9,10,43] O<|.cb hj1 O (fun hj1=>?_) (fun hj1=>?_)
     ·refine .region ?_;cases hj1;exact .be O<|.hU O zw
     cases hj1;exact .sk<|.hU O zw
    refine .bd h1 fun x1 hx1 h1=>.JU EI hx1 fun g2 hA=>?_;subst hA;refine .BG (iN [0,4,8,12,16,20,24,28,32,36,41,45,48,52,57,61,65,71,73,79] .nil) _ mixed (by kernel_rfl) (zl [0] 1 O)<|.yn 10 O<|.bd h1 fun x2 hx2 h1=>.DR (Rd.FO (E:=AP) hx2 O O O O O O O) O<|.DR (Rd.EZ 0 hx2 O EI O O) O<|.yn 2 O<|.bd h1 fun x3 hx3 h1=>.DR (Rd.FO (E:=AP) hx3 O O O O O O O) O<|.DR (Rd.EZ 0 hx3 O EI O O) O<|.bd h1 fun x4 hx4 h1=>.DR (Rd.FO (E:=AP) hx4 O O O O O O O) O<|.BZ<|.bd h1 fun l1 hl1 h1=>.IY 0 hx4 hl1 O O (.s .z) O O O O O ?_;refine .ss 0 (zF hl1) ?_;refine .ss 47 (zF hl1) ?_;refine .ss 49 (zF hl1) ?_;refine .ss 53 (zF hl1) ?_;refine .ss 59 (zF hl1)<|.xk (zl [] 1 O)<|.bd h1 fun x5 hx5 h1=>.DR (Rd.FO (E:=AP) hx5 O O O O O O O) O<|.BZ<|.bd h1 fun l2 hl2 h1=>.IY 0 hx5 hl2 O O .z O O O O O ?_;refine .ss 0 (zF hl2) ?_;refine .ss 47 (zF hl2) ?_;refine .ss 49 (zF hl2) ?_;refine .ss 53 (zF hl2) ?_;refine .ss 59 (zF hl2)<|.xk (zl [] 1 O)<|.BX<|.BF<|.AB<|.pr [0,1,6,7,8,9] O<|.region ?_;cases h1;exact .be O<|.ag () hm1 O (zl [1] 0 O)
   refine .xq O ?_;cases h1;cases hd1 _ rfl
   exact .AB<|.LJ () trivial (zl [] 1 O)
  cases h;exact .KT Tryz.results184 .nil O _ ⟨O,O⟩ (fun _ w=>w)
 refine .skip ?_;cases h;exact .KT Tryz.results184 .nil O _ ⟨O,O⟩ (fun _ w=>w)
theorem Rx:BV Tryz.prog 225:=en Tryz.func225 (by kernel_rfl)
def xY (data:(List Int)) (BB:Int) (BO:Int) (swaps:Int):Option (Int × Int × Int):=
 bnd (AU data BO) fun x1=>bnd (AU data BB) fun x2=>bnd (zH x1 x2) fun r1=>bif r1 then (some (wrap .i64 (swaps+1),BO,BB)) else (some (swaps,BB,BO))
theorem tR {data BB BO swaps A1 c1 BN r} (h:xY data BB BO swaps=some r):
    AX Tryz.prog 225 [.slice A1 data.length c1, .int .i64 BB, .int .i64 BO, .pointer (some ⟨BN,0,none⟩)] [.ro (BP AP A1 c1 data), .res (Box BN 3 [.int .i64 swaps])] (fun v F=>v= .tuple #[.int .i64 r.2.1, .int .i64 r.2.2]∧F= [.res (Box BN 3 [.int .i64 r.1])]):=by
 refine AX.intro Tryz.func225 O O O fun w R=>?_;refine .ab [0,1,2,3] O<|.seq<|.seq<|.regionF mixed (by kernel_rfl)<|.n 2 O<|.bd h fun x1 hx1 h=>.FB hx1 0 O fun b1 ED=>.ld ED 0 0 O<|.n 2 O<|.bd h fun x2 hx2 h=>.FB hx2 1 O fun b2 JA=>.ld JA 0 0 O<|.bd h fun r1 hr1 h=>.cv [] (xF hr1) lL O<|.beq O<|.pf [1,2,3,18] [] 3 O O<|.cb h O (fun h=>?_) (fun h=>?_)
 ·refine .a 2 O<|.lb 0 0 O<|.n 2 O<|.sb 0 0 O<|.b [1,2] O<|.ab [8,9] O ?_;cases h;exact .rv O O ⟨O,O⟩ zw
 refine .sk<|.pr [1,2] O<|.ab [8,9] O ?_;cases h;exact .rv O O ⟨O,O⟩ zw
theorem Ry:BV Tryz.prog 209:=en Tryz.func209 (by kernel_rfl)
def xH (data:(List Int)) (BB:Int) (BO:Int) (XF:Int) (swaps:Int):Option (Int × Int):=
 bnd (xY data BB BO swaps) fun r1=>bnd (xY data r1.2.2 XF r1.1) fun r2=>bnd (xY data r1.2.1 r2.2.1 r2.1) fun r3=>some (r3.1,r3.2.2)
theorem tV {data BB BO XF swaps A1 c1 BN r} (h:xH data BB BO XF swaps=some r):
    AX Tryz.prog 209 [.slice A1 data.length c1, .int .i64 BB, .int .i64 BO, .int .i64 XF, .pointer (some ⟨BN,0,none⟩)] [.ro (BP AP A1 c1 data), .res (Box BN 3 [.int .i64 swaps])] (fun v F=>v= .int .i64 r.2∧F= [.res (Box BN 3 [.int .i64 r.1])]):=by
 refine AX.intro Tryz.func209 O O O fun w R=>?_;refine .ab [0,1,2,3,4] O<|.a 4 O<|.bd h fun r1 hr1 h=>.cq 2 [1] [1] 0 (tR hr1) Rx O<|.b [0,1,2,3,4] O<|.a 4 O<|.bd h fun r2 hr2 h=>.cq 2 [1] [] 0 (tR hr2) Rx O<|.b [0,1,2,4] O<|.a 4 O<|.bd h fun r3 hr3 h=>.cq 2 [1] [] 0 (tR hr3) Rx O<|.bf [2] [0] 1 O O<|.ab [10] O ?_;cases h;exact .rv O O ⟨O,O⟩ zw
theorem Rz:BV Tryz.prog 208:=en Tryz.func208 (by kernel_rfl)
def yF (data:(List Int)) (BB:Int) (swaps:Int):Option (Int × Int):=
 bnd (xH data (wrap .i64 (BB - 1)) BB (wrap .i64 (BB+1)) swaps) fun r1=>some (r1.1,r1.2)
theorem vU {data BB swaps A1 c1 BN r} (h:yF data BB swaps=some r):
    AX Tryz.prog 208 [.slice A1 data.length c1, .int .i64 BB, .pointer (some ⟨BN,0,none⟩)] [.ro (BP AP A1 c1 data), .res (Box BN 3 [.int .i64 swaps])] (fun v F=>v= .int .i64 r.2∧F= [.res (Box BN 3 [.int .i64 r.1])]):=by
 refine AX.intro Tryz.func208 O O O fun w R=>?_;refine .ab [0,1,2] O<|.a 7 O<|.bd h fun r1 hr1 h=>.cq 2 [1] [1] 0 (tV hr1) Ry O<|.bf [6] [0] 1 O O ?_;cases h;exact .rv O O ⟨O,O⟩ zw
theorem zXP:BV Tryz.prog 185:=en Tryz.func185 (by kernel_rfl)
def xX (data:(List Int)) (BB:Int) (BO:Int):Option (Int × Int):=
 bnd ((bif decide ((wrap .i64 (BO - BB))≥8) then (bif decide ((wrap .i64 (BO - BB))≥50) then (bnd (yF data (wrap .i64 (BB+(wrap .i64 ((wrap .i64 ((wrap .i64 (BO - BB)).tdiv 4))*1)))) 0) fun r1=>bnd (yF data (wrap .i64 (BB+(wrap .i64 ((wrap .i64 ((wrap .i64 (BO - BB)).tdiv 4))*2)))) r1.1) fun r2=>bnd (yF data (wrap .i64 (BB+(wrap .i64 ((wrap .i64 ((wrap .i64 (BO - BB)).tdiv 4))*3)))) r2.1) fun r3=>bnd (xH data r1.2 r2.2 r3.2 r3.1) fun r4=>some (r4.2,r4.1)) else (bnd (xH data (wrap .i64 (BB+(wrap .i64 ((wrap .i64 ((wrap .i64 (BO - BB)).tdiv 4))*1)))) (wrap .i64 (BB+(wrap .i64 ((wrap .i64 ((wrap .i64 (BO - BB)).tdiv 4))*2)))) (wrap .i64 (BB+(wrap .i64 ((wrap .i64 ((wrap .i64 (BO - BB)).tdiv 4))*3)))) 0) fun r5=>some (r5.2,r5.1))) else (some (wrap .i64 (BB+(wrap .i64 ((wrap .i64 ((wrap .i64 (BO - BB)).tdiv 4))*2))),0)):Option (Int × Int))) fun o1=>bif (o1.2==0) then (some (o1.1,1)) else (bif (o1.2==12) then (some (o1.1,2)) else (some (o1.1,0)))
theorem lH {data BB BO A1 c1 r} (h:xX data BB BO=some r):
    AX Tryz.prog 185 [.slice A1 data.length c1, .int .i64 BB, .int .i64 BO] [.ro (BP AP A1 c1 data)] (Val (.tuple #[.int .i64 r.1, .int .i64 r.2])):=by
 refine AX.intro Tryz.func185 O O O fun w R=>?_;refine .ab [0,1,2] O<|.ab [0,1,8] O<|.seq<|.region<|.alloc O O fun g1=>.done<|.AB<|.ab [0,1,8,9,10] O<|.ab [0,1,8,9,10,11] O<|.ab [0,8,9,10,11,12] O<|.seq<|.bd h fun o1 hj1 h=>.cu 2 [9, .s 11 (.int .i64 o1.1)] [.res (Box g1 3 [.int .i64 o1.2])] O O ?_ ?_
 ·refine .ab [0,8,9,10,11,12,32] O<|.cb hj1 O (fun hj1=>?_) (fun hj1=>?_)
  ·refine .seq<|.ab [0,9,10,11,12,34] O<|.cb hj1 O (fun hj1=>?_) (fun hj1=>?_)
   ·refine .a 2 O<|.bd hj1 fun r1 hr1 hj1=>.cq 2 [1] [] 0 (vU hr1) Rz O<|.b [0,9,10,11,12] O<|.a 2 O<|.bd hj1 fun r2 hr2 hj1=>.cq 2 [1] [] 0 (vU hr2) Rz O<|.b [0,9,10,11,12] O<|.region<|.n 2 O<|.bd hj1 fun r3 hr3 hj1=>.cq 2 [1] [] 0 (vU hr3) Rz O<|.b [0,9,10,11,12] O<|.region<|.n 4 O<|.bd hj1 fun r4 hr4 hj1=>.cq 2 [1] [] 0 (tV hr4) Ry O ?_;cases hj1;exact .be O<|.hU O (zl [0] 1 O)
   refine .sk<|.pr [0,9,10,11,12] O<|.region<|.n 4 O<|.bd hj1 fun r5 JF hj1=>.cq 2 [1] [] 0 (tV JF) Ry O ?_;cases hj1;exact .be O<|.hU O (zl [0] 1 O)
  cases hj1;exact .sk<|.hU O (zl [0] 1 O)
 refine .seq<|.region<|.lb 0 0 O<|.bf [11,49] [] 1 O O<|.block<|.ab [11,49,51] O<|.cb h O (fun h=>?_) (fun h=>?_)
 ·refine .ab [6,7] O ?_;cases h;exact .rv O O ⟨O,O⟩ zw
 refine .ab [11,54] O<|.cb h O (fun h=>?_) (fun h=>?_)
 ·refine .ab [6,7] O ?_;cases h;exact .rv O O ⟨O,O⟩ zw
 refine .ab [6,7] O ?_;cases h;exact .rv O O ⟨O,O⟩ zw
theorem zWU:BV Tryz.prog 186:=en Tryz.func186 (by kernel_rfl)
def yY (data:(List Int)) (BB:Int) (BO:Int):Option (List Int):=
 bnd (zI (τ:=List Int) (fun (s1:List Int × Int × Int)=>bif decide (s1.2.1<s1.2.2) then (bnd (AU s1.1 s1.2.2) fun x1=>bnd (AU s1.1 s1.2.2) fun x2=>bnd (AU s1.1 s1.2.1) fun x3=>bnd (AU s1.1 s1.2.1) fun x4=>bnd (xJ s1.1 s1.2.1 x2) fun l1=>bnd (AU l1 s1.2.2) fun x5=>bnd (xJ l1 s1.2.2 x3) fun l2=>some (.next (l2,wrap .i64 (s1.2.1+1),wrap .i64 (s1.2.2 - 1)))) else (some (.done s1.1))) (data,BB,wrap .i64 (BO - 1))) fun o1=>some o1
theorem mV {data BB BO A1 c1 r} (h:yY data BB BO=some r):
    AX Tryz.prog 186 [.slice A1 data.length c1, .int .i64 BB, .int .i64 BO] [.res (zD AP 5 A1 c1 data)] (fun v F=>v= .tuple #[]∧F= [.res (zD AP 5 A1 c1 r)]):=by
 refine AX.intro Tryz.func186 O O O fun w R=>?_;refine .ab [0,2,6] O<|.ab [0,6,7] O<|.bd h fun o1 hl1 h=>.DV<|.cu 1 [] [.res (zD AP 5 A1 c1 o1)] O O ?_ ?_
 ·refine .block<|.BH hl1 1 (fun (s1:List Int × Int × Int) (e1:Unit)=>[.s 0 (.slice A1 s1.1.length c1), .s 6 (.int .i64 s1.2.1), .s 7 (.int .i64 s1.2.2)]) (fun s1 e1=>[.res (zD AP 5 A1 c1 s1.1)]) O O () (zb O) (fun _ w=>w) ?_;rintro s1 e1 st1 hm1 hd1 h1;refine .seq<|.ab [0,6,7,13] O<|.cb h1 O (fun h1=>?_) (fun h1=>?_)
  ·refine .sk<|.pr [0,6,7] O<|.block<|.seq<|.bd h1 fun x1 hx1 h1=>.JU (.head _) hx1 fun g1 hA=>?_;subst hA;refine .BG (iN [0,4,8,12,16,20,25,29,32,36,41,45,49,55,57,63] .nil) _ mixed (by kernel_rfl) (zl [] 1 O)<|.yn 6 O<|.bd h1 fun x2 hx2 h1=>.DR (Rd.FO (E:=AP) hx2 O O O O O O O) O<|.DR (Rd.EZ 0 hx2 O (.head _) O O) O<|.yn 2 O<|.bd h1 fun x3 hx3 h1=>.DR (Rd.FO (E:=AP) hx3 O O O O O O O) O<|.DR (Rd.EZ 0 hx3 O (.head _) O O) O<|.bd h1 fun x4 hx4 h1=>.DR (Rd.FO (E:=AP) hx4 O O O O O O O) O<|.BZ<|.bd h1 fun l1 hl1 h1=>.IY 0 hx4 hl1 O O .z O O O O O ?_;refine .ss 0 (zF hl1) ?_;refine .ss 14 (zF hl1) ?_;refine .ss 16 (zF hl1) ?_;refine .ss 18 (zF hl1) ?_;refine .ss 22 (zF hl1)<|.xk (zl [] 1 O)<|.bd h1 fun x5 hx5 h1=>.DR (Rd.FO (E:=AP) hx5 O O O O O O O) O<|.BZ<|.bd h1 fun l2 hl2 h1=>.IY 0 hx5 hl2 O O .z O O O O O ?_;refine .ss 0 (zF hl2) ?_;refine .ss 14 (zF hl2) ?_;refine .ss 16 (zF hl2) ?_;refine .ss 18 (zF hl2) ?_;refine .ss 22 (zF hl2)<|.xk (zl [] 1 O)<|.BX<|.AB<|.pr [0,6,7] O<|.ab [0,6,7] O<|.region<|.n 3 O<|.done<|.BF ?_;cases h1;exact .AB<|.ag () hm1 O zw
  refine .xq O ?_;cases h1;cases hd1 _ rfl
  exact .AB<|.LJ () trivial zw
 cases h;exact .KT Tryz.results186 .nil O _ ⟨O,O⟩ (fun _ w=>w)
theorem zXu:BV Tryz.prog 187:=en Tryz.func187 (by kernel_rfl)
def yE (data:(List Int)) (BB:Int) (BO:Int):Option ((List Int) × Bool):=
 bnd (zI (τ:=((List Int) × Bool) ⊕ List Int) (fun (s1:List Int × Int × Int)=>bif decide (s1.2.2<5) then (bnd (zI (τ:=Int) (fun (s2:Int)=>bnd ((bif decide (s2<BO) then (bnd (AU s1.1 s2) fun x1=>bnd (AU s1.1 (wrap .i64 (s2 - 1))) fun x2=>bnd (zH x1 x2) fun r1=>some (!r1)) else (some false):Option Bool)) fun o4=>bif o4 then (some (.next (wrap .i64 (s2+1)))) else (some (.done s2))) s1.2.1) fun o3=>bif (o3==BO) then (some (.done (.inl (s1.1,true)))) else (bif decide ((wrap .i64 (BO - BB))<50) then (some (.done (.inl (s1.1,false)))) else (bnd (AU s1.1 (wrap .i64 (o3 - 1))) fun x3=>bnd (AU s1.1 (wrap .i64 (o3 - 1))) fun x4=>bnd (AU s1.1 o3) fun x5=>bnd (AU s1.1 o3) fun x6=>bnd (xJ s1.1 o3 x4) fun l1=>bnd (AU l1 (wrap .i64 (o3 - 1))) fun x7=>bnd (xJ l1 (wrap .i64 (o3 - 1)) x5) fun l2=>bnd ((bif decide ((wrap .i64 (o3 - BB))≥2) then (bnd (zI (τ:=List Int) (fun (s3:List Int × Int)=>bif decide (s3.2≥1) then (bnd (AU s3.1 s3.2) fun x8=>bnd (AU s3.1 (wrap .i64 (s3.2 - 1))) fun x9=>bnd (zH x8 x9) fun r2=>bif !r2 then (some (.done s3.1)) else (bnd (AU s3.1 (wrap .i64 (s3.2 - 1))) fun x10=>bnd (AU s3.1 s3.2) fun x11=>bnd (AU s3.1 s3.2) fun x12=>bnd (xJ s3.1 s3.2 x10) fun l3=>bnd (AU l3 (wrap .i64 (s3.2 - 1))) fun OJ=>bnd (xJ l3 (wrap .i64 (s3.2 - 1)) x11) fun l4=>some (.next (l4,wrap .i64 (s3.2 - 1))))) else (some (.done s3.1))) (l2,wrap .i64 (o3 - 1))) fun o6=>some o6) else (some l2):Option (List Int))) fun o5=>bif decide ((wrap .i64 (BO - o3))≥2) then (bnd (zI (τ:=List Int) (fun (s4:List Int × Int)=>bif decide (s4.2<BO) then (bnd (AU s4.1 s4.2) fun x14=>bnd (AU s4.1 (wrap .i64 (s4.2 - 1))) fun x15=>bnd (zH x14 x15) fun r3=>bif !r3 then (some (.done s4.1)) else (bnd (AU s4.1 (wrap .i64 (s4.2 - 1))) fun x16=>bnd (AU s4.1 s4.2) fun x17=>bnd (AU s4.1 s4.2) fun x18=>bnd (xJ s4.1 s4.2 x16) fun l5=>bnd (AU l5 (wrap .i64 (s4.2 - 1))) fun x19=>bnd (xJ l5 (wrap .i64 (s4.2 - 1)) x17) fun l6=>some (.next (l6,wrap .i64 (s4.2+1))))) else (some (.done s4.1))) (o5,wrap .i64 (o3+1))) fun o7=>some (.next (o7,o3,wrap .i64 (s1.2.2+1)))) else (some (.next (o5,o3,wrap .i64 (s1.2.2+1))))))) else (some (.done (.inr s1.1)))) (data,wrap .i64 (BB+1),0)) fun o1=>wN o1 fun o2=>some (o2,false)
theorem pL {data BB BO A1 c1 r} (h:yE data BB BO=some r):
    AX Tryz.prog 187 [.slice A1 data.length c1, .int .i64 BB, .int .i64 BO] [.res (zD AP 5 A1 c1 data)] (fun v F=>v= .bool r.2∧F= [.res (zD AP 5 A1 c1 r.1)]):=by
 refine AX.intro Tryz.func187 O O O fun w R=>?_;refine .ab [0,1,2] O<|.ab [0,1,2,7] O<|.seq<|.ae O<|.bd h fun o1 hl1 h=>.EJ 1 (fun (o2:List Int) (e2:Unit)=>[]) (fun o2 e2=>[.res (zD AP 5 A1 c1 o2)]) O O (fun o2=>o1= .inr o2) ?_ ?_
 ·refine .block<|.BH hl1 1 (fun (s1:List Int × Int × Int) (e1:Unit)=>[.s 0 (.slice A1 s1.1.length c1),1,2, .s 7 (.int .i64 s1.2.1), .s 8 (.int .i64 s1.2.2)]) (fun s1 e1=>[.res (zD AP 5 A1 c1 s1.1)]) O O () (zb O) (fun _ w=>w) ?_;rintro s1 e1 st1 hm1 hd1 h1;refine .seq<|.ab [0,1,2,7,8,14] O<|.cb h1 O (fun h1=>?_) (fun h1=>?_)
  ·refine .sk<|.pr [0,1,2,7,8] O<|.seq<|.block<|.seq<|.bd h1 fun o3 hl2 h1=>.cu 0 [0,1,2, .s 7 (.int .i64 o3),8] [] O O ?_ ?_
   ·refine .block<|.BH hl2 0 (fun (s2:Int) (e3:Unit)=>[0,1,2, .s 7 (.int .i64 s2),8]) (fun s2 e3=>[]) O O () (zb O) (fun _ w=>w) ?_;rintro s2 e3 st2 hm2 hd2 h2;refine .seq<|.seq<|.bd h2 fun o4 hj1 h2=>.cu 0 [0,1,2,7,8, .s 32 (.bool o4)] [] O O ?_ ?_
    ·refine .regionF mixed (by kernel_rfl)<|.n 4 O<|.gs 20 hj1 O (fun hj1=>?_) (fun hj1=>?_)
     ·refine .n 2 O<|.BR O O<|.bd hj1 fun x1 hx1 hj1=>.II hx1 0 O fun g1 hA=>?_;subst hA;refine .BR O O<|.EZ 0 hx1 O O (.head _) O O<|.n 3 O<|.BR O O<|.bd hj1 fun x2 hx2 hj1=>.II hx2 0 O fun g2 hA=>?_;cases hA;refine .BR O O<|.EZ 0 hx2 O O (.head _) O O<|.BR O O<|.bd hj1 fun r1 hr1 hj1=>.cv [] (xF hr1) lL O ?_;cases hj1;exact .beq O<|.hU O zw
     cases hj1;exact .beq O<|.hU O zw
    refine .cb h2 O (fun h2=>?_) (fun h2=>?_)
    ·refine .sk<|.pr [0,1,2,7,8] O<|.block<|.region<|.n 3 O<|.done<|.BF ?_;cases h2;exact .AB<|.ag () hm2 O zw
    refine .xq O ?_;cases h2;cases hd2 _ rfl
    exact .AB<|.hU O zw
   refine .seq<|.ab [0,1,2,7,8,37] O<|.cb h1 O (fun h1=>?_) (fun h1=>?_)
   ·refine .ab [6] O ?_;cases h1;cases hd1 _ rfl
    have h:some _=some _:=h;cases h;exact .rv O O ⟨O,O⟩ zw
   refine .sk<|.pr [0,1,2,7,8] O<|.seq<|.ab [0,1,2,7,8,41] O<|.cb h1 O (fun h1=>?_) (fun h1=>?_)
   ·refine .ab [6] O ?_;cases h1;cases hd1 _ rfl
    have h:some _=some _:=h;cases h;exact .rv O O ⟨O,O⟩ zw
   refine .sk<|.pr [0,1,2,7,8] O<|.seq<|.bd h1 fun x3 hx3 h1=>.JU (.head _) hx3 fun g3 hA=>?_;subst hA;refine .BG (iN [0,4,8,12,16,20,24,28,33,37,40,44,49,53,57,63,65,71] .nil) _ mixed (by kernel_rfl) (zl [] 1 O)<|.yn 8 O<|.bd h1 fun x4 hx4 h1=>.DR (Rd.FO (E:=AP) hx4 O O O O O O O) O<|.DR (Rd.EZ 0 hx4 O (.head _) O O) O<|.yn 2 O<|.bd h1 fun x5 hx5 h1=>.DR (Rd.FO (E:=AP) hx5 O O O O O O O) O<|.DR (Rd.EZ 0 hx5 O (.head _) O O) O<|.bd h1 fun x6 hx6 h1=>.DR (Rd.FO (E:=AP) hx6 O O O O O O O) O<|.BZ<|.bd h1 fun l1 hl1 h1=>.IY 0 hx6 hl1 O O .z O O O O O ?_;refine .ss 0 (zF hl1) ?_;refine .ss 42 (zF hl1) ?_;refine .ss 44 (zF hl1) ?_;refine .ss 47 (zF hl1) ?_;refine .ss 52 (zF hl1)<|.xk (zl [] 1 O)<|.bd h1 fun x7 hx7 h1=>.DR (Rd.FO (E:=AP) hx7 O O O O O O O) O<|.BZ<|.bd h1 fun l2 hl2 h1=>.IY 0 hx7 hl2 O O .z O O O O O ?_;refine .ss 0 (zF hl2) ?_;refine .ss 42 (zF hl2) ?_;refine .ss 44 (zF hl2) ?_;refine .ss 47 (zF hl2) ?_;refine .ss 52 (zF hl2)<|.xk (zl [] 1 O)<|.BX<|.AB<|.pr [0,1,2,7,8] O<|.seq<|.bd h1 fun o5 hj2 h1=>.cu 1 [.s 0 (.slice (some ⟨g3,0,none⟩) o5.length c1),1,2,7,8] [.res (zD AP 5 (some ⟨g3,0,none⟩) c1 o5)] O O ?_ ?_
   ·refine .ab [0,1,2,7,8,61] O<|.cb hj2 O (fun hj2=>?_) (fun hj2=>?_)
    ·refine .ab [0,1,2,7,8,9] O<|.bd hj2 fun o6 hl3 hj2=>.cu 1 [.s 0 (.slice (some ⟨g3,0,none⟩) o6.length c1),1,2,7,8] [.res (zD AP 5 (some ⟨g3,0,none⟩) c1 o6)] O O ?_ ?_
     ·refine .block<|.BH hl3 1 (fun (s3:List Int × Int) (e7:Unit)=>[.s 0 (.slice (some ⟨g3,0,none⟩) s3.1.length c1),1,2,7,8, .s 9 (.int .i64 s3.2)]) (fun s3 e7=>[.res (zD AP 5 (some ⟨g3,0,none⟩) c1 s3.1)]) O O () (zb O) (fun _ w=>w) ?_;rintro s3 e7 Ii QD hd3 h3;refine .seq<|.ab [0,1,2,7,8,9,65] O<|.cb h3 O (fun h3=>?_) (fun h3=>?_)
      ·refine .sk<|.pr [0,1,2,7,8,9] O<|.seq<|.block<|.seq<|.seq<|.regionF mixed (by kernel_rfl)<|.n 2 O<|.bd h3 fun x8 JL h3=>.II JL 0 O fun g8 hA=>?_;cases hA;refine .EZ 0 JL O O (.head _) O O<|.n 3 O<|.bd h3 fun x9 ND h3=>.II ND 0 O fun g9 hA=>?_;cases hA;refine .EZ 0 ND O O (.head _) O O<|.bd h3 fun r2 hr2 h3=>.cv [] (xF hr2) lL O<|.bq [0,1,2,7,8,9,78] O<|.cb h3 O (fun h3=>?_) (fun h3=>?_)
       ·refine .xq O ?_;cases h3;cases hd3 _ rfl
        exact .AB<|.hU O zw
       refine .sk<|.pr [0,1,2,7,8,9] O<|.BG (iN [0,4,8,12,16,20,24,28,33,37,40,44,49,53,57,63,65,71] .nil) _ mixed (by kernel_rfl) (zl [] 1 O)<|.yn 8 O<|.bd h3 fun x10 JM h3=>.DR (Rd.FO (E:=AP) JM O O O O O O O) O<|.DR (Rd.EZ 0 JM O (.head _) O O) O<|.yn 2 O<|.bd h3 fun x11 KI h3=>.DR (Rd.FO (E:=AP) KI O O O O O O O) O<|.DR (Rd.EZ 0 KI O (.head _) O O) O<|.bd h3 fun x12 KJ h3=>.DR (Rd.FO (E:=AP) KJ O O O O O O O) O<|.BZ<|.bd h3 fun l3 hl3 h3=>.IY 0 KJ hl3 O O .z O O O O O ?_;refine .ss 0 (zF hl3) ?_;refine .ss 79 (zF hl3) ?_;refine .ss 81 (zF hl3) ?_;refine .ss 84 (zF hl3) ?_;refine .ss 89 (zF hl3)<|.xk (zl [] 1 O)<|.bd h3 fun OJ KL h3=>.DR (Rd.FO (E:=AP) KL O O O O O O O) O<|.BZ<|.bd h3 fun l4 hl4 h3=>.IY 0 KL hl4 O O .z O O O O O ?_;refine .ss 0 (zF hl4) ?_;refine .ss 79 (zF hl4) ?_;refine .ss 81 (zF hl4) ?_;refine .ss 84 (zF hl4) ?_;refine .ss 89 (zF hl4)<|.xk (zl [] 1 O)<|.BX<|.BF<|.AB<|.pr [0,1,2,7,8,9] O<|.region ?_;cases h3;exact .be O<|.ag () QD O zw
      refine .xq O ?_;cases h3;cases hd3 _ rfl
      exact .AB<|.hU O zw
     cases hj2;exact .hU O zw
    cases hj2;exact .sk<|.hU O zw
   refine .ab [0,1,2,7,8,98] O<|.cb h1 O (fun h1=>?_) (fun h1=>?_)
   ·refine .ab [0,1,2,7,8,10] O<|.bd h1 fun o7 hl4 h1=>.DV<|.cu 1 [.s 0 (.slice (some ⟨g3,0,none⟩) o7.length c1),1,2,7,8] [.res (zD AP 5 (some ⟨g3,0,none⟩) c1 o7)] O O ?_ ?_
    ·refine .block<|.BH hl4 1 (fun (s4:List Int × Int) (e9:Unit)=>[.s 0 (.slice (some ⟨g3,0,none⟩) s4.1.length c1),1,2,7,8, .s 10 (.int .i64 s4.2)]) (fun s4 e9=>[.res (zD AP 5 (some ⟨g3,0,none⟩) c1 s4.1)]) O O () (zb O) (fun _ w=>w) ?_;rintro s4 e9 Sj hm4 hd4 h4;refine .seq<|.ab [0,1,2,7,8,10,103] O<|.cb h4 O (fun h4=>?_) (fun h4=>?_)
     ·refine .sk<|.pr [0,1,2,7,8,10] O<|.seq<|.block<|.seq<|.seq<|.regionF mixed (by kernel_rfl)<|.n 2 O<|.bd h4 fun x14 MO h4=>.II MO 0 O fun g14 hA=>?_;cases hA;refine .EZ 0 MO O O (.head _) O O<|.n 3 O<|.bd h4 fun x15 OL h4=>.II OL 0 O fun g15 hA=>?_;cases hA;refine .EZ 0 OL O O (.head _) O O<|.bd h4 fun r3 hr3 h4=>.cv [] (xF hr3) lL O<|.bq [0,1,2,7,8,10,116] O<|.cb h4 O (fun h4=>?_) (fun h4=>?_)
      ·refine .xq O ?_;cases h4;cases hd4 _ rfl
       exact .AB<|.hU O zw
      refine .sk<|.pr [0,1,2,7,8,10] O<|.BG (iN [0,4,8,12,16,20,24,28,33,37,40,44,49,53,57,63,65,71] .nil) _ mixed (by kernel_rfl) (zl [] 1 O)<|.yn 8 O<|.bd h4 fun x16 hx16 h4=>.DR (Rd.FO (E:=AP) hx16 O O O O O O O) O<|.DR (Rd.EZ 0 hx16 O (.head _) O O) O<|.yn 2 O<|.bd h4 fun x17 OM h4=>.DR (Rd.FO (E:=AP) OM O O O O O O O) O<|.DR (Rd.EZ 0 OM O (.head _) O O) O<|.bd h4 fun x18 UH h4=>.DR (Rd.FO (E:=AP) UH O O O O O O O) O<|.BZ<|.bd h4 fun l5 hl5 h4=>.IY 0 UH hl5 O O .z O O O O O ?_;refine .ss 0 (zF hl5) ?_;refine .ss 117 (zF hl5) ?_;refine .ss 119 (zF hl5) ?_;refine .ss 122 (zF hl5) ?_;refine .ss 127 (zF hl5)<|.xk (zl [] 1 O)<|.bd h4 fun x19 UI h4=>.DR (Rd.FO (E:=AP) UI O O O O O O O) O<|.BZ<|.bd h4 fun l6 MI h4=>.IY 0 UI MI O O .z O O O O O ?_;refine .ss 0 (zF MI) ?_;refine .ss 117 (zF MI) ?_;refine .ss 119 (zF MI) ?_;refine .ss 122 (zF MI) ?_;refine .ss 127 (zF MI)<|.xk (zl [] 1 O)<|.BX<|.BF<|.AB<|.pr [0,1,2,7,8,10] O<|.region ?_;cases h4;exact .be O<|.ag () hm4 O zw
     refine .xq O ?_;cases h4;cases hd4 _ rfl
     exact .AB<|.hU O zw
    refine .BF<|.AB<|.region ?_;cases h1;exact .be O<|.ag () hm1 O zw
   refine .skip<|.BF<|.AB<|.pr [0,1,2,7,8] O<|.region ?_;cases h1;exact .be O<|.ag () hm1 O zw
  refine .xq O ?_;cases h1;cases hd1 _ rfl
  exact .AB<|.DN s1.1 () O trivial zw
 rintro o2 e2 ho;subst ho;have h:=IV h;refine .ae O ?_;cases h;exact .rv O O ⟨O,O⟩ zw
theorem zWq:BV Tryz.prog 189:=en Tryz.func189 (by kernel_rfl)
def yS (data:(List Int)) (BB:Int) (BO:Int) (pivot:Int):Option ((List Int) × Int):=
 bnd (AU data pivot) fun x1=>bnd (AU data pivot) fun x2=>bnd (AU data BB) fun x3=>bnd (AU data BB) fun x4=>bnd (xJ data BB x2) fun l1=>bnd (AU l1 pivot) fun x5=>bnd (xJ l1 pivot x3) fun l2=>bnd (zI (τ:=List Int × Int) (fun (s1:List Int × Int × Int)=>bnd (zI (τ:=Int) (fun (s2:Int)=>bnd ((bif decide (s2≤s1.2.2) then (bnd (AU s1.1 BB) fun x6=>bnd (AU s1.1 s2) fun x7=>bnd (zH x6 x7) fun r1=>some (!r1)) else (some false):Option Bool)) fun o3=>bif o3 then (some (.next (wrap .i64 (s2+1)))) else (some (.done s2))) s1.2.1) fun o2=>bnd (zI (τ:=Int) (fun (s3:Int)=>bnd ((bif decide (o2≤s3) then (bnd (AU s1.1 BB) fun x8=>bnd (AU s1.1 s3) fun x9=>bnd (zH x8 x9) fun r2=>some r2) else (some false):Option Bool)) fun o5=>bif o5 then (some (.next (wrap .i64 (s3 - 1)))) else (some (.done s3))) s1.2.2) fun o4=>bif decide (o2>o4) then (some (.done (s1.1,o2))) else (bnd (AU s1.1 o4) fun x10=>bnd (AU s1.1 o2) fun x11=>bnd (AU s1.1 o2) fun x12=>bnd (xJ s1.1 o2 x10) fun l3=>bnd (AU l3 o4) fun OJ=>bnd (xJ l3 o4 x11) fun l4=>some (.next (l4,wrap .i64 (o2+1),wrap .i64 (o4 - 1))))) (l2,wrap .i64 (BB+1),wrap .i64 (BO - 1))) fun o1=>some (o1.1,o1.2)
theorem nS {data BB BO pivot A1 c1 r} (h:yS data BB BO pivot=some r):
    AX Tryz.prog 189 [.slice A1 data.length c1, .int .i64 BB, .int .i64 BO, .int .i64 pivot] [.res (zD AP 5 A1 c1 data)] (fun v F=>v= .int .i64 r.2∧F= [.res (zD AP 5 A1 c1 r.1)]):=by
 refine AX.intro Tryz.func189 O O O fun w R=>?_;refine .ab [0,1,2,3] O<|.seq<|.bd h fun x1 hx1 h=>.JU (.head _) hx1 fun g1 hA=>?_;subst hA;refine .BG (iN [0,4,8,12,16,20,25,29,32,36,41,45,49,55,57,63] .nil) _ mixed (by kernel_rfl) (zl [] 1 O)<|.yn 6 O<|.bd h fun x2 hx2 h=>.DR (Rd.FO (E:=AP) hx2 O O O O O O O) O<|.DR (Rd.EZ 0 hx2 O (.head _) O O) O<|.yn 2 O<|.bd h fun x3 hx3 h=>.DR (Rd.FO (E:=AP) hx3 O O O O O O O) O<|.DR (Rd.EZ 0 hx3 O (.head _) O O) O<|.bd h fun x4 hx4 h=>.DR (Rd.FO (E:=AP) hx4 O O O O O O O) O<|.BZ<|.bd h fun l1 hl1 h=>.IY 0 hx4 hl1 O O .z O O O O O ?_;refine .ss 0 (zF hl1) ?_;refine .ss 11 (zF hl1) ?_;refine .ss 13 (zF hl1) ?_;refine .ss 15 (zF hl1) ?_;refine .ss 19 (zF hl1)<|.xk (zl [] 1 O)<|.bd h fun x5 hx5 h=>.DR (Rd.FO (E:=AP) hx5 O O O O O O O) O<|.BZ<|.bd h fun l2 hl2 h=>.IY 0 hx5 hl2 O O .z O O O O O ?_;refine .ss 0 (zF hl2) ?_;refine .ss 11 (zF hl2) ?_;refine .ss 13 (zF hl2) ?_;refine .ss 15 (zF hl2) ?_;refine .ss 19 (zF hl2)<|.xk (zl [] 1 O)<|.BX<|.AB<|.pr [0,1,2] O<|.ab [0,1,9,10] O<|.seq<|.bd h fun o1 hl1 h=>.cu 1 [.s 9 (.int .i64 o1.2)] [.res (zD AP 5 (some ⟨g1,0,none⟩) c1 o1.1)] O O ?_ ?_
 ·refine .block<|.BH hl1 1 (fun (s1:List Int × Int × Int) (e1:Unit)=>[.s 0 (.slice (some ⟨g1,0,none⟩) s1.1.length c1),1, .s 9 (.int .i64 s1.2.1), .s 10 (.int .i64 s1.2.2)]) (fun s1 e1=>[.res (zD AP 5 (some ⟨g1,0,none⟩) c1 s1.1)]) O O () (zb O) (fun _ w=>w) ?_;rintro s1 e1 st1 hm1 hd1 h1;refine .block<|.seq<|.bd h1 fun o2 hl2 h1=>.cu 0 [0,1, .s 9 (.int .i64 o2),10] [] O O ?_ ?_
  ·refine .block<|.BH hl2 0 (fun (s2:Int) (e3:Unit)=>[0,1, .s 9 (.int .i64 s2),10]) (fun s2 e3=>[]) O O () (zb O) (fun _ w=>w) ?_;rintro s2 e3 st2 hm2 hd2 h2;refine .seq<|.seq<|.bd h2 fun o3 hj1 h2=>.cu 0 [0,1,9,10, .s 43 (.bool o3)] [] O O ?_ ?_
   ·refine .regionF mixed (by kernel_rfl)<|.n 4 O<|.gs 32 hj1 O (fun hj1=>?_) (fun hj1=>?_)
    ·refine .n 2 O<|.BR O O<|.bd hj1 fun x6 hx6 hj1=>.II hx6 0 O fun g6 hA=>?_;cases hA;refine .BR O O<|.EZ 0 hx6 O O (.head _) O O<|.n 2 O<|.BR O O<|.bd hj1 fun x7 hx7 hj1=>.II hx7 0 O fun g7 hA=>?_;cases hA;refine .BR O O<|.EZ 0 hx7 O O (.head _) O O<|.BR O O<|.bd hj1 fun r1 hr1 hj1=>.cv [] (xF hr1) lL O ?_;cases hj1;exact .beq O<|.hU O zw
    cases hj1;exact .beq O<|.hU O zw
   refine .cb h2 O (fun h2=>?_) (fun h2=>?_)
   ·refine .sk<|.pr [0,1,9,10] O<|.block<|.region<|.n 3 O<|.done<|.BF ?_;cases h2;exact .AB<|.ag () hm2 O zw
   refine .xq O ?_;cases h2;cases hd2 _ rfl
   exact .AB<|.hU O zw
  refine .seq<|.bd h1 fun o4 hl3 h1=>.cu 0 [0,1,9, .s 10 (.int .i64 o4)] [] O O ?_ ?_
  ·refine .block<|.BH hl3 0 (fun (s3:Int) (e6:Unit)=>[0,1,9, .s 10 (.int .i64 s3)]) (fun s3 e6=>[]) O O () (zb O) (fun _ w=>w) ?_;rintro s3 e6 Ii QD hd3 h3;refine .seq<|.seq<|.bd h3 fun o5 hj2 h3=>.cu 0 [0,1,9,10, .s 59 (.bool o5)] [] O O ?_ ?_
   ·refine .regionF mixed (by kernel_rfl)<|.n 4 O<|.gs 49 hj2 O (fun hj2=>?_) (fun hj2=>?_)
    ·refine .n 2 O<|.BR O O<|.bd hj2 fun x8 JL hj2=>.II JL 0 O fun g8 hA=>?_;cases hA;refine .BR O O<|.EZ 0 JL O O (.head _) O O<|.n 2 O<|.BR O O<|.bd hj2 fun x9 ND hj2=>.II ND 0 O fun g9 hA=>?_;cases hA;refine .BR O O<|.EZ 0 ND O O (.head _) O O<|.BR O O<|.bd hj2 fun r2 hr2 hj2=>.cv [] (xF hr2) lL O ?_;cases hj2;exact .beq O<|.hU O zw
    cases hj2;exact .beq O<|.hU O zw
   refine .cb h3 O (fun h3=>?_) (fun h3=>?_)
   ·refine .sk<|.pr [0,1,9,10] O<|.block<|.region<|.n 3 O<|.done<|.BF ?_;cases h3;exact .AB<|.ag () QD O zw
   refine .xq O ?_;cases h3;cases hd3 _ rfl
   exact .AB<|.hU O zw
  refine .seq<|.ab [0,1,9,10,64] O<|.cb h1 O (fun h1=>?_) (fun h1=>?_)
  ·refine .xq O ?_;cases h1;cases hd1 _ rfl
   exact .AB<|.hU O zw
  refine .sk<|.pr [0,1,9,10] O<|.seq<|.BG (iN [0,4,8,12,16,20,25,29,32,36,41,45,49,55,57,63] .nil) _ mixed (by kernel_rfl) (zl [] 1 O)<|.yn 6 O<|.bd h1 fun x10 JM h1=>.DR (Rd.FO (E:=AP) JM O O O O O O O) O<|.DR (Rd.EZ 0 JM O (.head _) O O) O<|.yn 2 O<|.bd h1 fun x11 KI h1=>.DR (Rd.FO (E:=AP) KI O O O O O O O) O<|.DR (Rd.EZ 0 KI O (.head _) O O) O<|.bd h1 fun x12 KJ h1=>.DR (Rd.FO (E:=AP) KJ O O O O O O O) O<|.BZ<|.bd h1 fun l3 hl3 h1=>.IY 0 KJ hl3 O O .z O O O O O ?_;refine .ss 0 (zF hl3) ?_;refine .ss 65 (zF hl3) ?_;refine .ss 67 (zF hl3) ?_;refine .ss 69 (zF hl3) ?_;refine .ss 73 (zF hl3)<|.xk (zl [] 1 O)<|.bd h1 fun OJ KL h1=>.DR (Rd.FO (E:=AP) KL O O O O O O O) O<|.BZ<|.bd h1 fun l4 hl4 h1=>.IY 0 KL hl4 O O .z O O O O O ?_;refine .ss 0 (zF hl4) ?_;refine .ss 65 (zF hl4) ?_;refine .ss 67 (zF hl4) ?_;refine .ss 69 (zF hl4) ?_;refine .ss 73 (zF hl4)<|.xk (zl [] 1 O)<|.BX<|.AB<|.pr [0,1,9,10] O<|.ab [0,1,9,10] O<|.region<|.n 3 O<|.done<|.BF ?_;cases h1;exact .AB<|.ag () hm1 O zw
 refine .ab [8] O ?_;cases h;exact .rv O O ⟨O,O⟩ zw
theorem zXS:BV Tryz.prog 190:=en Tryz.func190 (by kernel_rfl)
def xL (data:(List Int)) (BB:Int) (BO:Int) (pivot:Int):Option ((List Int) × Int × Bool):=
 bnd (AU data pivot) fun x1=>bnd (AU data pivot) fun x2=>bnd (AU data BB) fun x3=>bnd (AU data BB) fun x4=>bnd (xJ data BB x2) fun l1=>bnd (AU l1 pivot) fun x5=>bnd (xJ l1 pivot x3) fun l2=>bnd (zI (τ:=Int) (fun (s1:Int)=>bnd ((bif decide (s1≤(wrap .i64 (BO - 1))) then (bnd (AU l2 s1) fun x6=>bnd (AU l2 BB) fun x7=>bnd (zH x6 x7) fun r1=>some r1) else (some false):Option Bool)) fun o2=>bif o2 then (some (.next (wrap .i64 (s1+1)))) else (some (.done s1))) (wrap .i64 (BB+1))) fun o1=>bnd (zI (τ:=Int) (fun (s2:Int)=>bnd ((bif decide (o1≤s2) then (bnd (AU l2 s2) fun x8=>bnd (AU l2 BB) fun x9=>bnd (zH x8 x9) fun r2=>some (!r2)) else (some false):Option Bool)) fun o4=>bif o4 then (some (.next (wrap .i64 (s2 - 1)))) else (some (.done s2))) (wrap .i64 (BO - 1))) fun o3=>bif decide (o1>o3) then (bnd (AU l2 BB) fun x10=>bnd (AU l2 o3) fun x11=>bnd (AU l2 o3) fun x12=>bnd (xJ l2 o3 x10) fun l3=>bnd (AU l3 BB) fun OJ=>bnd (xJ l3 BB x11) fun l4=>some (l4,o3,true)) else (bnd (AU l2 o3) fun x14=>bnd (AU l2 o1) fun x15=>bnd (AU l2 o1) fun x16=>bnd (xJ l2 o1 x14) fun l5=>bnd (AU l5 o3) fun x17=>bnd (xJ l5 o3 x15) fun l6=>bnd (zI (τ:=List Int × Int) (fun (s3:List Int × Int × Int)=>bnd (zI (τ:=Int) (fun (s4:Int)=>bnd ((bif decide (s4≤s3.2.2) then (bnd (AU s3.1 s4) fun x18=>bnd (AU s3.1 BB) fun x19=>bnd (zH x18 x19) fun r3=>some r3) else (some false):Option Bool)) fun o7=>bif o7 then (some (.next (wrap .i64 (s4+1)))) else (some (.done s4))) s3.2.1) fun o6=>bnd (zI (τ:=Int) (fun (s5:Int)=>bnd ((bif decide (o6≤s5) then (bnd (AU s3.1 s5) fun x20=>bnd (AU s3.1 BB) fun x21=>bnd (zH x20 x21) fun r4=>some (!r4)) else (some false):Option Bool)) fun o9=>bif o9 then (some (.next (wrap .i64 (s5 - 1)))) else (some (.done s5))) s3.2.2) fun o8=>bif decide (o6>o8) then (some (.done (s3.1,o8))) else (bnd (AU s3.1 o8) fun Ij=>bnd (AU s3.1 o6) fun x23=>bnd (AU s3.1 o6) fun x24=>bnd (xJ s3.1 o6 Ij) fun l7=>bnd (AU l7 o8) fun x25=>bnd (xJ l7 o8 x23) fun l8=>some (.next (l8,wrap .i64 (o6+1),wrap .i64 (o8 - 1))))) (l6,wrap .i64 (o1+1),wrap .i64 (o3 - 1))) fun o5=>bnd (AU o5.1 BB) fun x26=>bnd (AU o5.1 o5.2) fun x27=>bnd (AU o5.1 o5.2) fun x28=>bnd (xJ o5.1 o5.2 x26) fun l9=>bnd (AU l9 BB) fun x29=>bnd (xJ l9 BB x27) fun l10=>some (l10,o5.2,false))
theorem kL {data BB BO pivot A1 c1 r} (h:xL data BB BO pivot=some r):
    AX Tryz.prog 190 [.slice A1 data.length c1, .int .i64 BB, .int .i64 BO, .int .i64 pivot] [.res (zD AP 5 A1 c1 data)] (fun v F=>v= .tuple #[.int .i64 r.2.1, .bool r.2.2]∧F= [.res (zD AP 5 A1 c1 r.1)]):=by
 refine AX.intro Tryz.func190 O O O fun w R=>?_;refine .ab [0,1,2,3] O<|.seq<|.bd h fun x1 hx1 h=>.JU (.head _) hx1 fun g1 hA=>?_;subst hA;refine .BG (iN [0,4,8,12,16,20,25,29,32,36,41,45,49,55,57,63] .nil) _ mixed (by kernel_rfl) (zl [] 1 O)<|.yn 6 O<|.bd h fun x2 hx2 h=>.DR (Rd.FO (E:=AP) hx2 O O O O O O O) O<|.DR (Rd.EZ 0 hx2 O (.head _) O O) O<|.yn 2 O<|.bd h fun x3 hx3 h=>.DR (Rd.FO (E:=AP) hx3 O O O O O O O) O<|.DR (Rd.EZ 0 hx3 O (.head _) O O) O<|.bd h fun x4 hx4 h=>.DR (Rd.FO (E:=AP) hx4 O O O O O O O) O<|.BZ<|.bd h fun l1 hl1 h=>.IY 0 hx4 hl1 O O .z O O O O O ?_;refine .ss 0 (zF hl1) ?_;refine .ss 12 (zF hl1) ?_;refine .ss 14 (zF hl1) ?_;refine .ss 16 (zF hl1) ?_;refine .ss 20 (zF hl1)<|.xk (zl [] 1 O)<|.bd h fun x5 hx5 h=>.DR (Rd.FO (E:=AP) hx5 O O O O O O O) O<|.BZ<|.bd h fun l2 hl2 h=>.IY 0 hx5 hl2 O O .z O O O O O ?_;refine .ss 0 (zF hl2) ?_;refine .ss 12 (zF hl2) ?_;refine .ss 14 (zF hl2) ?_;refine .ss 16 (zF hl2) ?_;refine .ss 20 (zF hl2)<|.xk (zl [] 1 O)<|.BX<|.AB<|.pr [0,1,2] O<|.ab [0,1,10,11] O<|.seq<|.bd h fun o1 hl1 h=>.cu 0 [0,1, .s 10 (.int .i64 o1),11] [] O O ?_ ?_
 ·refine .block<|.BH hl1 0 (fun (s1:Int) (e1:Unit)=>[0,1, .s 10 (.int .i64 s1),11]) (fun s1 e1=>[]) O O () (zb O) (fun _ w=>w) ?_;rintro s1 e1 st1 hm1 hd1 h1;refine .seq<|.seq<|.bd h1 fun o2 hj1 h1=>.cu 0 [0,1,10,11, .s 43 (.bool o2)] [] O O ?_ ?_
  ·refine .regionF mixed (by kernel_rfl)<|.n 4 O<|.gs 33 hj1 O (fun hj1=>?_) (fun hj1=>?_)
   ·refine .n 2 O<|.BR O O<|.bd hj1 fun x6 hx6 hj1=>.II hx6 0 O fun g6 hA=>?_;cases hA;refine .BR O O<|.EZ 0 hx6 O O (.head _) O O<|.n 2 O<|.BR O O<|.bd hj1 fun x7 hx7 hj1=>.II hx7 0 O fun g7 hA=>?_;cases hA;refine .BR O O<|.EZ 0 hx7 O O (.head _) O O<|.BR O O<|.bd hj1 fun r1 hr1 hj1=>.cv [] (xF hr1) lL O ?_;cases hj1;exact .beq O<|.hU O zw
   cases hj1;exact .beq O<|.hU O zw
  refine .cb h1 O (fun h1=>?_) (fun h1=>?_)
  ·refine .sk<|.pr [0,1,10,11] O<|.block<|.region<|.n 3 O<|.done<|.BF ?_;cases h1;exact .AB<|.ag () hm1 O zw
  refine .xq O ?_;cases h1;cases hd1 _ rfl
  exact .AB<|.hU O zw
 refine .seq<|.bd h fun o3 hl2 h=>.cu 0 [0,1,10, .s 11 (.int .i64 o3)] [] O O ?_ ?_
 ·refine .block<|.BH hl2 0 (fun (s2:Int) (e4:Unit)=>[0,1,10, .s 11 (.int .i64 s2)]) (fun s2 e4=>[]) O O () (zb O) (fun _ w=>w) ?_;rintro s2 e4 st2 hm2 hd2 h2;refine .seq<|.seq<|.bd h2 fun o4 hj2 h2=>.cu 0 [0,1,10,11, .s 60 (.bool o4)] [] O O ?_ ?_
  ·refine .regionF mixed (by kernel_rfl)<|.n 4 O<|.gs 49 hj2 O (fun hj2=>?_) (fun hj2=>?_)
   ·refine .n 2 O<|.BR O O<|.bd hj2 fun x8 JL hj2=>.II JL 0 O fun g8 hA=>?_;cases hA;refine .BR O O<|.EZ 0 JL O O (.head _) O O<|.n 2 O<|.BR O O<|.bd hj2 fun x9 ND hj2=>.II ND 0 O fun g9 hA=>?_;cases hA;refine .BR O O<|.EZ 0 ND O O (.head _) O O<|.BR O O<|.bd hj2 fun r2 hr2 hj2=>.cv [] (xF hr2) lL O ?_;cases hj2;exact .beq O<|.hU O zw
   cases hj2;exact .beq O<|.hU O zw
  refine .cb h2 O (fun h2=>?_) (fun h2=>?_)
  ·refine .sk<|.pr [0,1,10,11] O<|.block<|.region<|.n 3 O<|.done<|.BF ?_;cases h2;exact .AB<|.ag () hm2 O zw
  refine .xq O ?_;cases h2;cases hd2 _ rfl
  exact .AB<|.hU O zw
 refine .seq<|.ab [0,1,10,11,65] O<|.cb h O (fun h=>?_) (fun h=>?_)
 ·refine .seq<|.BG (iN [0,4,8,12,16,20,25,29,32,36,41,45,49,55,57,63] .nil) _ mixed (by kernel_rfl) (zl [] 1 O)<|.yn 6 O<|.bd h fun x10 JM h=>.DR (Rd.FO (E:=AP) JM O O O O O O O) O<|.DR (Rd.EZ 0 JM O (.head _) O O) O<|.yn 2 O<|.bd h fun x11 KI h=>.DR (Rd.FO (E:=AP) KI O O O O O O O) O<|.DR (Rd.EZ 0 KI O (.head _) O O) O<|.bd h fun x12 KJ h=>.DR (Rd.FO (E:=AP) KJ O O O O O O O) O<|.BZ<|.bd h fun l3 hl3 h=>.IY 0 KJ hl3 O O .z O O O O O ?_;refine .ss 0 (zF hl3) ?_;refine .ss 66 (zF hl3) ?_;refine .ss 68 (zF hl3) ?_;refine .ss 70 (zF hl3) ?_;refine .ss 74 (zF hl3)<|.xk (zl [] 1 O)<|.bd h fun OJ KL h=>.DR (Rd.FO (E:=AP) KL O O O O O O O) O<|.BZ<|.bd h fun l4 hl4 h=>.IY 0 KL hl4 O O .z O O O O O ?_;refine .ss 0 (zF hl4) ?_;refine .ss 66 (zF hl4) ?_;refine .ss 68 (zF hl4) ?_;refine .ss 70 (zF hl4) ?_;refine .ss 74 (zF hl4)<|.xk (zl [] 1 O)<|.BX<|.AB<|.pr [11] O<|.ab [8,9] O ?_;cases h;exact .rv O O ⟨O,O⟩ zw
 refine .sk<|.pr [0,1,10,11] O<|.seq<|.BG (iN [0,4,8,12,16,20,25,29,32,36,41,45,49,55,57,63] .nil) _ mixed (by kernel_rfl) (zl [] 1 O)<|.yn 6 O<|.bd h fun x14 MO h=>.DR (Rd.FO (E:=AP) MO O O O O O O O) O<|.DR (Rd.EZ 0 MO O (.head _) O O) O<|.yn 2 O<|.bd h fun x15 OL h=>.DR (Rd.FO (E:=AP) OL O O O O O O O) O<|.DR (Rd.EZ 0 OL O (.head _) O O) O<|.bd h fun x16 hx16 h=>.DR (Rd.FO (E:=AP) hx16 O O O O O O O) O<|.BZ<|.bd h fun l5 hl5 h=>.IY 0 hx16 hl5 O O .z O O O O O ?_;refine .ss 0 (zF hl5) ?_;refine .ss 81 (zF hl5) ?_;refine .ss 83 (zF hl5) ?_;refine .ss 85 (zF hl5) ?_;refine .ss 89 (zF hl5)<|.xk (zl [] 1 O)<|.bd h fun x17 OM h=>.DR (Rd.FO (E:=AP) OM O O O O O O O) O<|.BZ<|.bd h fun l6 MI h=>.IY 0 OM MI O O .z O O O O O ?_;refine .ss 0 (zF MI) ?_;refine .ss 81 (zF MI) ?_;refine .ss 83 (zF MI) ?_;refine .ss 85 (zF MI) ?_;refine .ss 89 (zF MI)<|.xk (zl [] 1 O)<|.BX<|.AB<|.pr [0,1,10,11] O<|.ab [0,1,10,11] O<|.ab [0,1,10,11] O<|.seq<|.bd h fun o5 hl3 h=>.cu 1 [.s 0 (.slice (some ⟨g1,0,none⟩) o5.1.length c1),1, .s 11 (.int .i64 o5.2)] [.res (zD AP 5 (some ⟨g1,0,none⟩) c1 o5.1)] O O ?_ ?_
 ·refine .block<|.BH hl3 1 (fun (s3:List Int × Int × Int) (e7:Unit)=>[.s 0 (.slice (some ⟨g1,0,none⟩) s3.1.length c1),1, .s 10 (.int .i64 s3.2.1), .s 11 (.int .i64 s3.2.2)]) (fun s3 e7=>[.res (zD AP 5 (some ⟨g1,0,none⟩) c1 s3.1)]) O O () (zb O) (fun _ w=>w) ?_;rintro s3 e7 Ii QD hd3 h3;refine .block<|.seq<|.bd h3 fun o6 hl4 h3=>.cu 0 [0,1, .s 10 (.int .i64 o6),11] [] O O ?_ ?_
  ·refine .block<|.BH hl4 0 (fun (s4:Int) (e9:Unit)=>[0,1, .s 10 (.int .i64 s4),11]) (fun s4 e9=>[]) O O () (zb O) (fun _ w=>w) ?_;rintro s4 e9 Sj hm4 hd4 h4;refine .seq<|.seq<|.bd h4 fun o7 hj3 h4=>.cu 0 [0,1,10,11, .s 112 (.bool o7)] [] O O ?_ ?_
   ·refine .regionF mixed (by kernel_rfl)<|.n 4 O<|.gs 102 hj3 O (fun hj3=>?_) (fun hj3=>?_)
    ·refine .n 2 O<|.BR O O<|.bd hj3 fun x18 UH hj3=>.II UH 0 O fun g18 hA=>?_;cases hA;refine .BR O O<|.EZ 0 UH O O (.head _) O O<|.n 2 O<|.BR O O<|.bd hj3 fun x19 UI hj3=>.II UI 0 O fun g19 hA=>?_;cases hA;refine .BR O O<|.EZ 0 UI O O (.head _) O O<|.BR O O<|.bd hj3 fun r3 hr3 hj3=>.cv [] (xF hr3) lL O ?_;cases hj3;exact .beq O<|.hU O zw
    cases hj3;exact .beq O<|.hU O zw
   refine .cb h4 O (fun h4=>?_) (fun h4=>?_)
   ·refine .sk<|.pr [0,1,10,11] O<|.block<|.region<|.n 3 O<|.done<|.BF ?_;cases h4;exact .AB<|.ag () hm4 O zw
   refine .xq O ?_;cases h4;cases hd4 _ rfl
   exact .AB<|.hU O zw
  refine .seq<|.bd h3 fun o8 hl5 h3=>.cu 0 [0,1,10, .s 11 (.int .i64 o8)] [] O O ?_ ?_
  ·refine .block<|.BH hl5 0 (fun (s5:Int) (e12:Unit)=>[0,1,10, .s 11 (.int .i64 s5)]) (fun s5 e12=>[]) O O () (zb O) (fun _ w=>w) ?_;rintro s5 e12 st5 hm5 hd5 h5;refine .seq<|.seq<|.bd h5 fun o9 EL h5=>.cu 0 [0,1,10,11, .s 129 (.bool o9)] [] O O ?_ ?_
   ·refine .regionF mixed (by kernel_rfl)<|.n 4 O<|.gs 118 EL O (fun EL=>?_) (fun EL=>?_)
    ·refine .n 2 O<|.BR O O<|.bd EL fun x20 Ap EL=>.II Ap 0 O fun g20 hA=>?_;cases hA;refine .BR O O<|.EZ 0 Ap O O (.head _) O O<|.n 2 O<|.BR O O<|.bd EL fun x21 Aq EL=>.II Aq 0 O fun g21 hA=>?_;cases hA;refine .BR O O<|.EZ 0 Aq O O (.head _) O O<|.BR O O<|.bd EL fun r4 hr4 EL=>.cv [] (xF hr4) lL O ?_;cases EL;exact .beq O<|.hU O zw
    cases EL;exact .beq O<|.hU O zw
   refine .cb h5 O (fun h5=>?_) (fun h5=>?_)
   ·refine .sk<|.pr [0,1,10,11] O<|.block<|.region<|.n 3 O<|.done<|.BF ?_;cases h5;exact .AB<|.ag () hm5 O zw
   refine .xq O ?_;cases h5;cases hd5 _ rfl
   exact .AB<|.hU O zw
  refine .seq<|.ab [0,1,10,11,134] O<|.cb h3 O (fun h3=>?_) (fun h3=>?_)
  ·refine .xq O ?_;cases h3;cases hd3 _ rfl
   exact .AB<|.hU O zw
  refine .sk<|.pr [0,1,10,11] O<|.seq<|.BG (iN [0,4,8,12,16,20,25,29,32,36,41,45,49,55,57,63] .nil) _ mixed (by kernel_rfl) (zl [] 1 O)<|.yn 6 O<|.bd h3 fun Ij Ar h3=>.DR (Rd.FO (E:=AP) Ar O O O O O O O) O<|.DR (Rd.EZ 0 Ar O (.head _) O O) O<|.yn 2 O<|.bd h3 fun x23 Au h3=>.DR (Rd.FO (E:=AP) Au O O O O O O O) O<|.DR (Rd.EZ 0 Au O (.head _) O O) O<|.bd h3 fun x24 hx24 h3=>.DR (Rd.FO (E:=AP) hx24 O O O O O O O) O<|.BZ<|.bd h3 fun l7 SE h3=>.IY 0 hx24 SE O O .z O O O O O ?_;refine .ss 0 (zF SE) ?_;refine .ss 135 (zF SE) ?_;refine .ss 137 (zF SE) ?_;refine .ss 139 (zF SE) ?_;refine .ss 143 (zF SE)<|.xk (zl [] 1 O)<|.bd h3 fun x25 hx25 h3=>.DR (Rd.FO (E:=AP) hx25 O O O O O O O) O<|.BZ<|.bd h3 fun l8 QE h3=>.IY 0 hx25 QE O O .z O O O O O ?_;refine .ss 0 (zF QE) ?_;refine .ss 135 (zF QE) ?_;refine .ss 137 (zF QE) ?_;refine .ss 139 (zF QE) ?_;refine .ss 143 (zF QE)<|.xk (zl [] 1 O)<|.BX<|.AB<|.pr [0,1,10,11] O<|.ab [0,1,10,11] O<|.region<|.n 3 O<|.done<|.BF ?_;cases h3;exact .AB<|.ag () QD O zw
 refine .seq<|.BG (iN [0,4,8,12,16,20,25,29,32,36,41,45,49,55,57,63] .nil) _ mixed (by kernel_rfl) (zl [] 1 O)<|.yn 6 O<|.bd h fun x26 Aw h=>.DR (Rd.FO (E:=AP) Aw O O O O O O O) O<|.DR (Rd.EZ 0 Aw O (.head _) O O) O<|.yn 2 O<|.bd h fun x27 hx27 h=>.DR (Rd.FO (E:=AP) hx27 O O O O O O O) O<|.DR (Rd.EZ 0 hx27 O (.head _) O O) O<|.bd h fun x28 hx28 h=>.DR (Rd.FO (E:=AP) hx28 O O O O O O O) O<|.BZ<|.bd h fun l9 XG h=>.IY 0 hx28 XG O O .z O O O O O ?_;refine .ss 0 (zF XG) ?_;refine .ss 153 (zF XG) ?_;refine .ss 155 (zF XG) ?_;refine .ss 157 (zF XG) ?_;refine .ss 161 (zF XG)<|.xk (zl [] 1 O)<|.bd h fun x29 hx29 h=>.DR (Rd.FO (E:=AP) hx29 O O O O O O O) O<|.BZ<|.bd h fun l10 SG h=>.IY 0 hx29 SG O O .z O O O O O ?_;refine .ss 0 (zF SG) ?_;refine .ss 153 (zF SG) ?_;refine .ss 155 (zF SG) ?_;refine .ss 157 (zF SG) ?_;refine .ss 161 (zF SG)<|.xk (zl [] 1 O)<|.BX<|.AB<|.pr [11] O<|.ab [8,9] O ?_;cases h;exact .rv O O ⟨O,O⟩ zw
theorem Sm:BV Tryz.prog 160:=en Tryz.func160 (by kernel_rfl)
def wU (rec:List Int→Int→Int→Int→Option (List Int)) (data:(List Int)) (BB:Int) (BO:Int) (limit:Int):Option (List Int):=
 bnd (zI (τ:=(List Int) ⊕ Unit) (fun (s1:List Int × Int × Int × Int × Bool × Bool)=>bif decide ((wrap .i64 (s1.2.2.1 - s1.2.1))≤12) then (bnd (xM s1.1 s1.2.1 s1.2.2.1) fun r1=>bnd (yV s1.1.length r1) fun l1=>some (.done (.inl r1))) else (bif (s1.2.2.2.1==0) then (bnd (wO s1.1 s1.2.1 s1.2.2.1) fun r2=>bnd (yV s1.1.length r2) fun l2=>some (.done (.inl r2))) else (bnd ((bif !s1.2.2.2.2.1 then (bnd (yW s1.1 s1.2.1 s1.2.2.1) fun r3=>bnd (yV s1.1.length r3) fun l3=>some (r3,wrap .i64 (s1.2.2.2.1 - 1))) else (some (s1.1,s1.2.2.2.1)):Option (List Int × Int))) fun o3=>bnd (xX o3.1 s1.2.1 s1.2.2.1) fun r4=>bnd ((bif (r4.2==2) then (bnd (yY o3.1 s1.2.1 s1.2.2.1) fun r5=>bnd (yV o3.1.length r5) fun l4=>some (r5,wrap .i64 ((wrap .i64 (s1.2.2.1 - 1)) - (wrap .i64 (r4.1 - s1.2.1))),1)) else (some (o3.1,r4.1,r4.2)):Option (List Int × Int × Int))) fun o4=>bnd ((bnd ((bif s1.2.2.2.2.1 then (bif s1.2.2.2.2.2 then (some (o4.2.2==1)) else (some false)) else (some false):Option Bool)) fun o7=>bif o7 then (bnd (yE o4.1 s1.2.1 s1.2.2.1) fun r6=>bnd (yV o4.1.length r6.1) fun l5=>bif r6.2 then (some (.inl r6.1)) else (some (.inr r6.1))) else (some (.inr o4.1)):Option ((List Int) ⊕ List Int))) fun o5=>Qr (fun r_=>(.done (.inl r_))) o5 fun o6=>bnd ((bif decide (s1.2.1>0) then (bnd (AU o6 (wrap .i64 (s1.2.1 - 1))) fun x1=>bnd (AU o6 o4.2.1) fun x2=>bnd (zH x1 x2) fun r7=>some (!r7)) else (some false):Option Bool)) fun o8=>bif o8 then (bnd (yS o6 s1.2.1 s1.2.2.1 o4.2.1) fun r8=>bnd (yV o6.length r8.1) fun l6=>some (.next (r8.1,r8.2,s1.2.2.1,o3.2,s1.2.2.2.2.1,s1.2.2.2.2.2))) else (bnd (xL o6 s1.2.1 s1.2.2.1 o4.2.1) fun r9=>bnd (yV o6.length r9.1) fun l7=>bif decide ((wrap .i64 (r9.2.1 - s1.2.1))<(wrap .i64 (s1.2.2.1 - r9.2.1))) then (bnd (rec r9.1 s1.2.1 r9.2.1 o3.2) fun r10=>bnd (yV r9.1.length r10) fun l8=>some (.next (r10,wrap .i64 (r9.2.1+1),s1.2.2.1,o3.2,decide ((wrap .i64 (r9.2.1 - s1.2.1))≥(wrap .i64 ((wrap .i64 (s1.2.2.1 - s1.2.1)).tdiv 8))),r9.2.2))) else (bnd (rec r9.1 (wrap .i64 (r9.2.1+1)) s1.2.2.1 o3.2) fun r11=>bnd (yV r9.1.length r11) fun l9=>some (.next (r11,s1.2.1,r9.2.1,o3.2,decide ((wrap .i64 (s1.2.2.1 - r9.2.1))≥(wrap .i64 ((wrap .i64 (s1.2.2.1 - s1.2.1)).tdiv 8))),r9.2.2))))))) (data,BB,BO,limit,true,true)) fun o1=>wN o1 fun o2=>none
theorem mW {rec:List Int→Int→Int→Int→Option (List Int)} (YO:∀ {data:(List Int)} {BB:Int} {BO:Int} {limit:Int} {A1:Option Addr} {c1:Nat} {r:(List Int)},rec data BB BO limit=some r→
    AX Tryz.prog 160 [.slice A1 data.length c1, .int .i64 BB, .int .i64 BO, .int .i64 limit] [.res (zD AP 5 A1 c1 data)] (fun v_ F_=>v_= .tuple #[]∧F_= [.res (zD AP 5 A1 c1 r)])) {data:(List Int)} {BB:Int} {BO:Int} {limit:Int} {A1:Option Addr} {c1:Nat} {r:(List Int)} (h:wU rec data BB BO limit=some r):
    AX Tryz.prog 160 [.slice A1 data.length c1, .int .i64 BB, .int .i64 BO, .int .i64 limit] [.res (zD AP 5 A1 c1 data)] (fun v_ F_=>v_= .tuple #[]∧F_= [.res (zD AP 5 A1 c1 r)]):=by
 refine AX.intro Tryz.func160 O O O fun w R=>?_;refine .ae O<|.ae O<|.bd h fun o1 hl1 h=>.DV<|.EJ 0 (fun (o2:Unit) (e2:Unit)=>[]) (fun o2 e2=>[]) O O (fun o2=>o1= .inr o2) ?_ ?_
 ·refine .block<|.BH hl1 1 (fun (s1:List Int × Int × Int × Int × Bool × Bool) (e1:Unit)=>[.s 0 (.slice A1 s1.1.length c1), .s 1 (.int .i64 s1.2.1), .s 2 (.int .i64 s1.2.2.1), .s 3 (.int .i64 s1.2.2.2.1), .s 8 (.bool s1.2.2.2.2.1), .s 9 (.bool s1.2.2.2.2.2)]) (fun s1 e1=>[.res (zD AP 5 A1 c1 s1.1)]) O O () (zb O) (fun _ w=>w) ?_;rintro s1 e1 st1 hm1 hd1 h1;refine .block<|.ab [0,1,2,3,8,9,10] O<|.seq<|.ab [0,1,2,3,8,9,10,23] O<|.cb h1 O (fun h1=>?_) (fun h1=>?_)
  ·refine .a 3 O<|.bd h1 fun r1 hr1 h1=>.cq 1 [] [] 0 (nW hr1) zWn O<|.bd h1 fun l1 hl1 h1=>?_;refine .ss 0 (tT hl1) ?_;refine .ss 24 (tT hl1)<|.b [] O ?_;cases h1;cases hd1 _ rfl
   have h:some _=some _:=h;cases h;exact .rv O O ⟨O,O⟩ zw
  refine .sk<|.pr [0,1,2,3,8,9,10] O<|.seq<|.ab [0,1,2,3,8,9,10,29] O<|.cb h1 O (fun h1=>?_) (fun h1=>?_)
  ·refine .a 3 O<|.bd h1 fun r2 hr2 h1=>.cq 1 [] [] 0 (kS hr2) zWi O<|.bd h1 fun l2 hl2 h1=>?_;refine .ss 0 (tT hl2) ?_;refine .ss 30 (tT hl2)<|.b [] O ?_;cases h1;cases hd1 _ rfl
   have h:some _=some _:=h;cases h;exact .rv O O ⟨O,O⟩ zw
  refine .sk<|.pr [0,1,2,3,8,9,10] O<|.seq<|.bd h1 fun o3 hj1 h1=>.cu 1 [.s 0 (.slice A1 o3.1.length c1),1,2, .s 3 (.int .i64 o3.2),8,9,10] [.res (zD AP 5 A1 c1 o3.1)] O O ?_ ?_
  ·refine .ab [0,1,2,3,8,9,10,35] O<|.cb hj1 O (fun hj1=>?_) (fun hj1=>?_)
   ·refine .a 3 O<|.bd hj1 fun r3 hr3 hj1=>.cq 1 [] [] 0 (nY hr3) zXL O<|.bd hj1 fun l3 hl3 hj1=>?_;refine .ss 0 (tT hl3) ?_;refine .ss 36 (tT hl3)<|.b [0,1,2,3,8,9,10] O<|.region ?_;cases hj1;exact .be O<|.hU O zw
   cases hj1;exact .sk<|.hU O zw
  refine .a 3 O<|.bd h1 fun r4 hr4 h1=>.YF (lH hr4) zXP O O O O (bQ.own (.head _) bQ.nil) (fun _ _ h=>by rw [h.2]; exact True.intro) ?_;rintro _ _ ⟨rfl,rfl⟩;refine .nm 1 O<|.b [0,1,2,3,8,9,10,11,12] O<|.seq<|.bd h1 fun o4 hj2 h1=>.cu 1 [.s 0 (.slice A1 o4.1.length c1),1,2,3,8,9,10, .s 11 (.int .i64 o4.2.1), .s 12 (.int .i64 o4.2.2)] [.res (zD AP 5 A1 c1 o4.1)] O O ?_ ?_
  ·refine .ab [0,1,2,3,8,9,10,11,12,50] O<|.cb hj2 O (fun hj2=>?_) (fun hj2=>?_)
   ·refine .a 3 O<|.bd hj2 fun r5 JF hj2=>.cq 1 [] [] 0 (mV JF) zWU O<|.bd hj2 fun l4 hl4 hj2=>?_;refine .ss 0 (tT hl4) ?_;refine .ss 51 (tT hl4)<|.b [0,1,2,3,8,9,10,11] O<|.ab [0,1,2,3,8,9,10,11] O<|.region ?_;cases hj2;exact .be O<|.hU O zw
   cases hj2;exact .sk<|.hU O zw
  refine .seq<|.bd h1 fun o5 hj3 h1=>.EJ 1 (fun (o6:List Int) (e5:Unit)=>[.s 0 (.slice A1 o6.length c1),1,2,3,8,9,10,11]) (fun o6 e5=>[.res (zD AP 5 A1 c1 o6)]) O O (fun o6=>o5= .inr o6) ?_ ?_
  ·refine .seq<|.bd hj3 fun o7 EL hj3=>.cu 0 [0,1,2,3,8,9,10,11, .s 68 (.bool o7)] [] O O ?_ ?_
   ·refine .region<|.n 2 O<|.gs 62 EL O (fun EL=>?_) (fun EL=>?_)
    ·refine .n 3 O<|.gs 65 EL O (fun EL=>?_) (fun EL=>?_)
     ·cases EL;exact .be O<|.hU O zw
     cases EL;exact .be O<|.hU O zw
    cases EL;exact .be O<|.hU O zw
   refine .cb hj3 O (fun hj3=>?_) (fun hj3=>?_)
   ·refine .a 3 O<|.bd hj3 fun r6 KZ hj3=>.cq 1 [] [] 0 (pL KZ) zXu O<|.bd hj3 fun l5 hl5 hj3=>?_;refine .ss 0 (tT hl5) ?_;refine .ss 69 (tT hl5)<|.b [0,1,2,3,8,9,10,11,72] O<|.cb hj3 O (fun hj3=>?_) (fun hj3=>?_)
    ·cases hj3;have h1:some _=some _:=h1;cases h1;cases hd1 _ rfl
     have h:some _=some _:=h;cases h;exact .rv O O ⟨O,O⟩ zw
    cases hj3;exact .sk<|.DN r6.1 () O (zb O) zw
   cases hj3;exact .sk<|.DN o4.1 () O (zb O) zw
  rintro o6 e5 ho;subst ho;have h1:=zZc h1;refine .seq<|.seq<|.bd h1 fun o8 GH h1=>.cu 0 [0,1,2,3,8,9,10,11, .s 87 (.bool o8)] [] O O ?_ ?_
  ·refine .regionF mixed (by kernel_rfl)<|.n 3 O<|.gs 75 GH O (fun GH=>?_) (fun GH=>?_)
   ·refine .n 3 O<|.BR O O<|.bd GH fun x1 hx1 GH=>.II hx1 0 O fun g1 hA=>?_;subst hA;refine .BR O O<|.EZ 0 hx1 O O (.head _) O O<|.n 2 O<|.BR O O<|.bd GH fun x2 hx2 GH=>.II hx2 0 O fun g2 hA=>?_;cases hA;refine .BR O O<|.EZ 0 hx2 O O (.head _) O O<|.BR O O<|.bd GH fun r7 PI GH=>.cv [] (xF PI) lL O ?_;cases GH;exact .beq O<|.hU O zw
   cases GH;exact .beq O<|.hU O zw
  refine .cb h1 O (fun h1=>?_) (fun h1=>?_)
  ·refine .a 4 O<|.bd h1 fun r8 SH h1=>.cq 1 [] [] 0 (nS SH) zWq O<|.bd h1 fun l6 MI h1=>?_;refine .ss 0 (tT MI) ?_;refine .ss 88 (tT MI)<|.b [0,2,3,8,9,13] O<|.ab [0,1,2,3,8,9] O<|.xq O ?_;cases h1;exact .AB<|.ag () hm1 O zw
  refine .sk<|.pr [0,1,2,3,10,11] O<|.a 4 O<|.bd h1 fun r9 XH h1=>.cq 1 [] [] 0 (kL XH) zXS O<|.bd h1 fun l7 SE h1=>?_;refine .ss 0 (tT SE) ?_;refine .ss 95 (tT SE)<|.b [0,1,2,3,10,14,15] O<|.ab [0,1,2,3,9,10,14] O<|.ab [0,1,2,3,9,10,14,16,17] O<|.ab [0,1,2,3,9,14,16,17,18] O<|.ab [0,1,2,3,9,14,16,17,18,113] O<|.cb h1 O (fun h1=>?_) (fun h1=>?_)
  ·refine .ab [0,1,2,3,8,9,14] O<|.a 4 O<|.bd h1 fun r10 NT h1=>.cq 1 [] [] 0 (YO NT) Sm O<|.bd h1 fun l8 QE h1=>?_;refine .ss 0 (tT QE) ?_;refine .ss 117 (tT QE)<|.b [0,2,3,8,9,14] O<|.region<|.n 3 O<|.done<|.BF ?_;cases h1;exact .AB<|.ag () hm1 O zw
  refine .ab [0,1,2,3,8,9,14] O<|.a 5 O<|.bd h1 fun r11 UJ h1=>.cq 1 [] [] 0 (YO UJ) Sm O<|.bd h1 fun l9 XG h1=>?_;refine .ss 0 (tT XG) ?_;refine .ss 127 (tT XG)<|.b [0,1,3,8,9,14] O<|.region<|.n 2 O<|.done<|.BF ?_;cases h1;exact .AB<|.ag () hm1 O zw
 rintro o2 e2 ho;subst ho;have h:=IV h;have h:none=some _:=h;cases h
def wF:Nat→List Int→Int→Int→Int→Option (List Int)
 | 0=>fun _ _ _ _=>none
 | n_+1=>wU (wF n_)
def tE (data:(List Int)) (BB:Int) (BO:Int) (limit:Int):Option (List Int):=wF (data.length+1) data BB BO limit
theorem kJ (n_:Nat):∀ {data:(List Int)} {BB:Int} {BO:Int} {limit:Int} {A1:Option Addr} {c1:Nat} {r:(List Int)},wF n_ data BB BO limit=some r→
    AX Tryz.prog 160 [.slice A1 data.length c1, .int .i64 BB, .int .i64 BO, .int .i64 limit] [.res (zD AP 5 A1 c1 data)] (fun v_ F_=>v_= .tuple #[]∧F_= [.res (zD AP 5 A1 c1 r)]):=by
 induction n_ with
 | zero=>intros; rename_i h; cases h
 | succ n_ ih=>intros; rename_i h; exact mW (fun h=>ih h) h
theorem jZ {data BB BO limit A1 c1 r} (h:tE data BB BO limit=some r):
  AX Tryz.prog 160 [.slice A1 data.length c1, .int .i64 BB, .int .i64 BO, .int .i64 limit] [.res (zD AP 5 A1 c1 data)] (fun v F=>v= .tuple #[]∧F= [.res (zD AP 5 A1 c1 r)]):=kJ _ h
def sP (CU:(List Int)):Option (List Int):=
 bnd (pP (wrap .u64 (CU.length:Int))) fun r1=>bnd (tE CU 0 (CU.length:Int) r1) fun r2=>bnd (yV CU.length r2) fun l1=>some r2
theorem fE {CU:(List Int)} {A1:Option Addr} {c1:Nat} {r:(List Int)} (h:sP CU=some r):
    AX Tryz.prog 129 [.slice A1 CU.length c1] [.res (zD AP 5 A1 c1 CU)] (fun v F=>v= .tuple #[]∧F= [.res (zD AP 5 A1 c1 r)]):=by
 refine AX.intro Tryz.func129 O O O fun w R=>?_;refine .ab [0,2] O<|.region<|.n 4 O<|.bd h fun r1 hr1 h=>.cv [] (iE hr1) zSO O<|.bd h fun r2 hr2 h=>.cq 1 [] [] 0 (jZ hr2) Sm O<|.bd h fun l1 hl1 h=>?_;refine .ss 0 (tT hl1) ?_;refine .ss 5 (tT hl1)<|.done ?_;cases h;exact .KT Tryz.results129 .nil O _ ⟨O,O⟩ (fun _ w=>w)
@[simp] theorem AA {α β:Type} (a:α) (f:α→Option β):bnd (some a) f=f a:=rfl
@[simp] theorem Az {α β:Type} (f:α→Option β):bnd none f=none:=rfl
@[simp] theorem NE {ρ σ:Type} (r:ρ) (f:σ→Option ρ):wN (.inl r) f=some r:=rfl
@[simp] theorem ER {ρ σ:Type} (s:σ) (f:σ→Option ρ):wN (.inr s) f=f s:=rfl
theorem zUo {α:Type} (x:Option α):bnd x (fun y=>some y)=x:=by cases x <;> rfl
theorem zC {x:Int} (h1: -9223372036854775808≤x) (h2:x≤9223372036854775807):wrap .i64 x=x:=by
 unfold wrap
 simp only [IntKind.bits,IntKind.signed]
 simp
 omega
theorem Ba {x:Int} (h1:0≤x) (h2:x≤18446744073709551615):wrap .u64 x=x:=by
 unfold wrap
 simp only [IntKind.bits,IntKind.signed]
 simp
 omega
theorem zSy {x:Int} (h1:0≤x) (h2:x≤4294967295):wrap .u32 x=x:=by
 unfold wrap
 simp only [IntKind.bits,IntKind.signed]
 simp
 omega
theorem Ik {x:Int} (h1:0≤x) (h2:x≤65535):wrap .u16 x=x:=by
 unfold wrap
 simp only [IntKind.bits,IntKind.signed]
 simp
 omega
theorem oC {x:Int} (h1:0≤x) (h2:x≤255):wrap .u8 x=x:=by
 unfold wrap
 simp only [IntKind.bits,IntKind.signed]
 simp
 omega
theorem Sr (x:Int):wrap .u8 x=x % 256:=by unfold wrap; simp [IntKind.bits,IntKind.signed]
theorem zCH (x:Int):wrap .u32 x=x % 4294967296:=by unfold wrap; simp [IntKind.bits,IntKind.signed]
theorem yA {i n:Nat} (h:i<n) (hn:n≤140737488355328):wrap .i64 ((i:Int)+1)=((i+1:Nat):Int):=by
 rw [zC (by omega) (by omega)]
 omega
theorem zIc {i n:Nat} (h0:0<i) (h:i<n) (hn:n≤140737488355328):wrap .i64 ((i:Int) - 1)=((i - 1:Nat):Int):=by
 rw [zC (by omega) (by omega)]
 omega
@[simp] theorem JQ {α:Type} (xs:List α) (i:Nat):AU xs (i:Int)=xs[i]?:=by simp [AU]
theorem vS {α:Type} {xs:List α} {i:Nat} (h:i<xs.length):AU xs (i:Int)=some xs[i]:=by simp [h]
theorem sT {α:Type} {b:Nat} {xs ys:List α} (h:(xs.length+ys.length)*b≤140737488355328) (h2:xs.length+ys.length≤9223372036854775807):app b xs ys=some (xs++ys):=by
 simp [app,h,h2]
theorem zNV (a b:ByteArray):(a.toList==b.toList)=decide (a=b):=by
 rw [Bool.eq_iff_iff]
 simp only [beq_iff_eq,decide_eq_true_eq]
 constructor
 ·intro h
  rw [ByteArray.toList_eq,ByteArray.toList_eq] at h
  obtain ⟨x⟩:=a
  obtain ⟨y⟩:=b
  have:x=y:=Array.toList_inj.1 h
  rw [this]
 ·intro h; rw [h]
theorem zUA (a b:ByteArray):sJ.eq a b=decide (a=b):=by
 rw [Bool.eq_iff_iff]
 simp only [decide_eq_true_eq]
 constructor
 ·exact U1
 ·intro h; subst h; exact U2 a
theorem Sv {α β:Type} [DecidableEq α] {K:pQ α} (hK:∀ a b,K.eq a b=true↔a=b) (m:List (α × β)) (k k':α) (v:β):uA K.eq (pG K.eq m k v) k'=if k'=k then some v else uA K.eq m k':=by
 have hf:∀ a b,a≠b→K.eq a b=false:=fun a b h=>by
  cases hc:K.eq a b
  ·rfl
  ·exact absurd ((hK a b).1 hc) h
 have ht:∀ a,K.eq a a=true:=fun a=>(hK a a).2 O
 induction m with
 | nil=>
  by_cases h:k'=k
  ·subst h; simp [pG,uA,ht]
  ·simp [pG,uA,hf _ _ h,h]
 | cons x r ih=>
  by_cases hx:k=x.1
  ·subst hx
   by_cases h:k'=x.1
   ·subst h; simp [pG,uA,ht]
   ·simp [pG,uA,ht,hf _ _ h,h]
  ·by_cases h:k'=x.1
   ·subst h
    have:x.1≠k:=fun e=>hx e.symm
    simp [pG,uA,hf _ _ hx,ht,this]
   ·simp [pG,uA,hf _ _ hx,hf _ _ h,ih]
theorem zSt (a b:ByteArray):sJ.eq a b=true↔a=b:=by rw [zUA]; simp
theorem Sz {β:Type} (m:List (ByteArray × β)) (k k':ByteArray) (v:β):uA sJ.eq (pG sJ.eq m k v) k'=if k'=k then some v else uA sJ.eq m k':=Sv zSt m k k' v
theorem zZ {σ τ:Type} {m:σ→Option (vM σ τ)} {s:σ} {t:τ} (h:m s=some (.done t)):zI m s=some t:=
 mO.2 ⟨1,by simp [iY,h]⟩
theorem yQ {σ τ:Type} {m:σ→Option (vM σ τ)} {s s':σ} {t:τ} (h:m s=some (.next s')) (k:zI m s'=some t):zI m s=some t:=by
 obtain ⟨n,hn⟩:=mO.1 k
 exact mO.2 ⟨n+1,by simp [iY,h,hn]⟩
theorem cD {σ τ:Type} {m:σ→Option (vM σ τ)} (S:Nat→σ) (n:Nat) {t:τ} (hs:∀ i,i<n→m (S i)=some (.next (S (i+1)))) (hd:m (S n)=some (.done t)):zI m (S 0)=some t:=by
  have:∀ k i,i+k=n→zI m (S i)=some t:=by
    intro k
    induction k with
    | zero => intro i hi; obtain rfl : i = n := by omega
              exact zZ hd
    | succ k ih=>intro i hi; exact yQ (hs i (by omega)) (ih (i+1) (by omega))
  exact this n 0 (by omega)
theorem cO {σ τ:Type} {m:σ→Option (vM σ τ)} (S:Nat→σ) (n:Nat) (f:Nat→Option τ) {t:τ} (hs:∀ i,i<n→m (S i)=some (match f i with | some u=>.done u | none=>.next (S (i+1)))) (hd:m (S n)=some (.done t)):
    zI m (S 0)=some (((List.range n).findSome? f).getD t):=by
  have:∀ k i,i+k=n→zI m (S i)=some (((List.range' i k).findSome? f).getD t):=by
    intro k
    induction k with
    | zero => intro i hi; obtain rfl : i = n := by omega
              exact zZ hd
    | succ k ih=>
      intro i hi
      have h1:=hs i (by omega)
      rw [List.range'_succ,List.findSome?_cons]
      cases hf:f i with
      | some u=>rw [hf] at h1; simpa using zZ h1
      | none=>rw [hf] at h1; exact yQ h1 (ih (i+1) (by omega))
  simpa [List.range_eq_range'] using this n 0 (by omega)
theorem Tc {σ τ:Type} {m:σ→Option (vM σ τ)} (S:Nat→σ) (n:Nat) (p:Nat→Bool) {u t:τ} (hs:∀ i,i<n→m (S i)=some (bif p i then .done u else .next (S (i+1)))) (hd:m (S n)=some (.done t)):
  zI m (S 0)=some (bif (List.range n).any p then u else t):=by
 rw [cO S n (fun i=>bif p i then some u else none) (t:=t) (fun i hi=>?_) hd]
 ·congr 1
  generalize List.range n=l
  induction l with
  | nil=>rfl
  | cons x r ih=>
   rw [List.findSome?_cons,List.any_cons]
   cases p x
   ·simpa using ih
   ·rfl
 ·rw [hs i hi]
  cases p i <;> rfl
theorem zIz {α τ:Type} (p:α→Bool) (g:Nat→α→τ):∀ (l:List α) (k:Nat) (f:Nat→Option τ),(∀ i (h:i<l.length),f (k+i)=if p l[i] then some (g (k+i) l[i]) else none)→
  (∃ i,∃ h:i<l.length,p l[i]=true∧l.find? p=some l[i]∧(List.range' k l.length).findSome? f=some (g (k+i) l[i]))∨(l.find? p=none∧(∀ x∈l,p x=false)∧(List.range' k l.length).findSome? f=none)
 | [],k,f,_=>.inr ⟨O,by simp,O⟩
 | x::r,k,f,hf=>by
  have h0:=hf 0 (by simp)
  simp only [Nat.add_zero,List.getElem_cons_zero] at h0
  cases hp:p x
  ·have ih:=zIz p g r (k+1) f (fun i h=>by
    have:=hf (i+1) (by simpa using h)
    simpa [Nat.add_assoc,Nat.add_comm 1 i] using this)
   simp only [hp,Bool.false_eq_true,if_false] at h0
   rcases ih with ⟨i,h,h1,h2,h3⟩ | ⟨h1,h2,h3⟩
   ·refine .inl ⟨i+1,by simpa using h,by simpa using h1,by simp [List.find?_cons,hp,h2],?_⟩
    simp only [List.length_cons,List.range'_succ,List.findSome?_cons,h0,h3,List.getElem_cons_succ]
    congr 2
    omega
   ·exact .inr ⟨by simp [List.find?_cons,hp,h1],by simpa [hp] using h2,by simp [List.range'_succ,List.findSome?_cons,h0,h3]⟩
  ·refine .inl ⟨0,by simp,by simpa using hp,by simp [List.find?_cons,hp],?_⟩
   simp only [hp,if_true] at h0
   simp [List.range'_succ,List.findSome?_cons,h0]
theorem Td {α τ:Type} (l:List α) (p:α→Bool) (g:Nat→α→τ) (f:Nat→Option τ) (hf:∀ i (h:i<l.length),f i=if p l[i] then some (g i l[i]) else none):
  (∃ i,∃ h:i<l.length,p l[i]=true∧l.find? p=some l[i]∧(List.range l.length).findSome? f=some (g i l[i]))∨(l.find? p=none∧(∀ x∈l,p x=false)∧(List.range l.length).findSome? f=none):=by
 have:=zIz p g l 0 f (by simpa using hf)
 simpa [List.range_eq_range'] using this
theorem zIJ {α:Type} (l:List α) (p:α→Bool) (f:Nat→Bool) (hf:∀ i (h:i<l.length),f i=p l[i]):(List.range l.length).any f=l.any p:=by
 rw [Bool.eq_iff_iff]
 simp only [List.any_eq_true,List.mem_range]
 constructor
 ·rintro ⟨i,hi,h⟩
  exact ⟨l[i],List.getElem_mem hi,by rw [←hf i hi]; exact h⟩
 ·rintro ⟨x,hx,h⟩
  obtain ⟨i,hi,rfl⟩:=List.getElem_of_mem hx
  exact ⟨i,hi,by rw [hf i hi]; exact h⟩
theorem zV {α:Type} {l:List α} {i:Nat} (h:i<l.length):l.take (i+1)=l.take i++ [l[i]]:=by
 rw [List.take_add_one,List.getElem?_eq_getElem h]
 rfl
theorem aB {α:Type} {p:α→Bool}:∀ {l:List α},l.countP p=1→∃ k,l.filter p= [k]∧l.find? p=some k∧k∈l∧p k=true∧∀ x∈l,p x=true→x=k
 | [],h=>by simp at h
 | x::r,h=>by
  cases hp:p x
  ·rw [List.countP_cons] at h
   simp only [hp,Bool.false_eq_true,if_false,Nat.add_zero] at h
   obtain ⟨k,h1,h2,h3,h4,h5⟩:=aB h
   refine ⟨k,by simp [List.filter_cons,hp,h1],by simp [List.find?_cons,hp,h2],by simp [h3],h4,fun y hy hpy=>?_⟩
   rcases List.mem_cons.1 hy with rfl | hy
   ·rw [hp] at hpy; cases hpy
   ·exact h5 y hy hpy
  ·rw [List.countP_cons] at h
   simp only [hp,if_true] at h
   have h0:r.countP p=0:=by omega
   have h1:=List.countP_eq_zero.1 h0
   have h2:r.filter p= []:=List.filter_eq_nil_iff.2 h1
   refine ⟨x,by simp [List.filter_cons,hp,h2],by simp [List.find?_cons,hp],by simp,hp,fun y hy hpy=>?_⟩
   rcases List.mem_cons.1 hy with rfl | hy
   ·rfl
   ·exact absurd hpy (h1 y hy)
theorem Bc {σ τ:Type} {m:σ→Option (vM σ τ)} (I:σ→Prop) (μ:σ→Nat) (Q:τ→Prop) (h:∀ s,I s→(∃ s',m s=some (.next s')∧I s'∧μ s'<μ s)∨∃ t,m s=some (.done t)∧Q t):∀ s,I s→∃ t,zI m s=some t∧Q t:=by
 have:∀ n s,μ s≤n→I s→∃ t,zI m s=some t∧Q t:=by
  intro n
  induction n with
  | zero=>
   intro s hs hI
   rcases h s hI with ⟨s',_,_,hl⟩ | ⟨t,ht,hq⟩
   ·omega
   ·exact ⟨t,zZ ht,hq⟩
  | succ n ih=>
   intro s hs hI
   rcases h s hI with ⟨s',hm,hI',hl⟩ | ⟨t,ht,hq⟩
   ·obtain ⟨t,h1,h2⟩:=ih s' (by omega) hI'
    exact ⟨t,yQ hm h1,h2⟩
   ·exact ⟨t,zZ ht,hq⟩
 exact fun s hI=>this (μ s) s (Nat.le_refl _) hI
theorem vE {σ τ ρ:Type} {m:σ→Option (vM σ τ)} {s0:σ} {k:τ→Option ρ} {r:Option ρ} (S:Nat→σ) (n:Nat) (t:τ) (h0:s0=S 0) (hs:∀ i,i<n→m (S i)=some (.next (S (i+1)))) (hd:m (S n)=some (.done t)) (hk:k t=r):
  bnd (zI m s0) k=r:=by
 subst h0
 rw [cD S n hs hd]
 exact hk
theorem zHO {σ τ ρ:Type} {m:σ→Option (vM σ τ)} {s0:σ} {k:τ→Option ρ} {r:Option ρ} (S:Nat→σ) (n:Nat) (f:Nat→Option τ) (t:τ) (h0:s0=S 0) (hs:∀ i,i<n→m (S i)=some (match f i with | some u=>.done u | none=>.next (S (i+1)))) (hd:m (S n)=some (.done t))
  (hk:k (((List.range n).findSome? f).getD t)=r):bnd (zI m s0) k=r:=by
 subst h0
 rw [cO S n f hs hd]
 exact hk
theorem aK {σ τ ρ:Type} {m:σ→Option (vM σ τ)} {s0:σ} {k:τ→Option ρ} {r:Option ρ} (S:Nat→σ) (n:Nat) (p:Nat→Bool) (u t:τ) (h0:s0=S 0) (hs:∀ i,i<n→m (S i)=some (bif p i then .done u else .next (S (i+1)))) (hd:m (S n)=some (.done t))
  (hk:k (bif (List.range n).any p then u else t)=r):bnd (zI m s0) k=r:=by
 subst h0
 rw [Tc S n p hs hd]
 exact hk
theorem lO {σ τ ρ:Type} {m:σ→Option (vM σ τ)} {s0:σ} {k:τ→Option ρ} {R:ρ→Prop} (I:σ→Prop) (μ:σ→Nat) (Q:τ→Prop) (h0:I s0) (h:∀ s,I s→(∃ s',m s=some (.next s')∧I s'∧μ s'<μ s)∨∃ t,m s=some (.done t)∧Q t)
  (hk:∀ t,Q t→∃ r,k t=some r∧R r):∃ r,bnd (zI m s0) k=some r∧R r:=by
 obtain ⟨t,h1,h2⟩:=Bc I μ Q h s0 h0
 rw [h1]
 exact hk t h2
theorem zE {α β:Type} {x:Option α} {f:α→Option β} {a:α} {r:Option β} (h:x=some a) (k:f a=r):bnd x f=r:=by rw [h]; exact k
theorem oz {α β:Type} {x:Option α} {f:α→Option β} {P:α→Prop} {R:β→Prop} (h:∃ a,x=some a∧P a) (k:∀ a,P a→∃ r,f a=some r∧R r):∃ r,bnd x f=some r∧R r:=by
 obtain ⟨a,h1,h2⟩:=h
 rw [h1]
 exact k a h2
def iz (l:List Nat):List Int:=l.map fun (n:Nat)=>(n:Int)
def yN (l:List Nat):Prop:=∀ x∈l,x<256
def bs (s:ByteArray):List Nat:=s.data.toList.map (·.toNat)
def sb (l:List Nat):ByteArray:=⟨(l.map UInt8.ofNat).toArray⟩
@[simp] theorem CJ (l:List Nat):(iz l).length=l.length:=by simp [iz]
@[simp] theorem LW:iz []= []:=rfl
@[simp] theorem KA (x:Nat) (l:List Nat):iz (x::l)=(x:Int)::iz l:=rfl
theorem zXh (l m:List Nat):iz l++iz m=iz (l++m):=by simp [iz]
theorem zRn (l:List Nat) (i:Nat):(iz l)[i]? =(l[i]?).map fun (n:Nat)=>(n:Int):=by simp [iz]
theorem zVY {b:List Int} (h:RX (PD .u8) b):∃ l,yN l∧b=iz l:=by
 have h':∀ x∈b,0≤x∧x≤255:=h.1
 refine ⟨b.map Int.toNat,fun x hx=>?_,?_⟩
 ·obtain ⟨y,hy,rfl⟩:=List.mem_map.1 hx
  have:=h' y hy
  omega
 ·unfold iz
  rw [List.map_map]
  conv=>lhs; rw [←List.map_id b]
  apply List.map_congr_left
  intro y hy
  have:=h' y hy
  simp only [id,Function.comp]
  omega
@[simp] theorem bs_len (s:ByteArray):(bs s).length=s.size:=by simp [bs]
theorem iM (s:ByteArray):yN (bs s):=fun x hx=>by
 obtain ⟨b,_,rfl⟩:=List.mem_map.1 hx
 exact b.toNat_lt
theorem pq {l:List Nat} (h:yN l):bs (sb l)=l:=by
 unfold bs sb
 simp only [List.map_map]
 conv=>rhs; rw [←List.map_id l]
 apply List.map_congr_left
 intro x hx
 have:=h x hx
 simp [Function.comp]
 omega
theorem Tf (s:ByteArray):sb (bs s)=s:=by
 obtain ⟨a⟩:=s
 unfold bs sb
 congr 1
 apply Array.ext'
 simp [List.map_map,Function.comp_def]
theorem Ti {s t:ByteArray} (h:bs s=bs t):s=t:=by rw [←Tf s,←Tf t,h]
@[simp] theorem KC (l:List Nat):(sb l).size=l.length:=by
 show (l.map UInt8.ofNat).toArray.size=_
 simp
theorem zSS:bs ⟨#[]⟩= []:=rfl
theorem Bd (l:List Nat):TA (iz l)=sb l:=by
 unfold TA sb iz
 simp [List.map_map,Function.comp_def]
theorem zQj (s:ByteArray):s.toList.map (·.toNat)=bs s:=by rw [ByteArray.toList_eq]; rfl
theorem zHe (s:ByteArray):pN s=iz (bs s):=by
 unfold pN iz
 rw [←zQj,List.map_map]
 rfl
theorem yN.app {l m:List Nat} (h:yN l) (k:yN m):yN (l++m):=fun x hx=>by
 rcases List.mem_append.1 hx with hx | hx
 ·exact h x hx
 ·exact k x hx
theorem yN.nil:yN []:=fun x hx=>by cases hx
theorem yN.cons {x:Nat} {l:List Nat} (h:x<256) (k:yN l):yN (x::l):=fun y hy=>by
 rcases List.mem_cons.1 hy with rfl | hy
 ·exact h
 ·exact k y hy
theorem yN.sub {l m:List Nat} (h:yN l) (k:∀ x∈m,x∈l):yN m:=fun x hx=>h x (k x hx)
theorem yN.take {l:List Nat} (h:yN l) (n:Nat):yN (l.take n):=h.sub fun _ hx=>List.mem_of_mem_take hx
theorem yN.drop {l:List Nat} (h:yN l) (n:Nat):yN (l.drop n):=h.sub fun _ hx=>List.mem_of_mem_drop hx
theorem yN.get {l:List Nat} (h:yN l) {i:Nat} (hi:i<l.length):l[i]<256:=h _ (List.getElem_mem hi)
theorem aJ {l:List Nat} {i:Nat} (h:i<l.length):AU (iz l) (i:Int)=some ((l[i]:Nat):Int):=by
 rw [JQ,zRn,List.getElem?_eq_getElem h]
 rfl
theorem lZ {s:ByteArray} {i:Nat} (h:i<s.size):DU s (i:Int)=some (((bs s)[i]'(by simpa using h):Nat):Int):=by
 simp only [DU,bs,List.getElem_map]
 rw [if_pos (by omega)]
 simp [h]
 rfl
theorem Il {l:List Nat} {i:Nat} (h:i<l.length) (v:Nat):xJ (iz l) (i:Int) (v:Int)=some (iz (l.set i v)):=by
 unfold xJ
 rw [if_pos ⟨by omega,by simpa using h⟩]
 simp [iz,List.map_set]
theorem bM {l:List Nat} {a b:Nat} (h:a≤b) (hb:b≤l.length):sub (iz l) (a:Int) (b:Int)=some (iz ((l.take b).drop a)):=by
 unfold sub
 rw [if_pos ⟨by omega,by omega,by simpa using hb⟩]
 simp [iz,List.map_take,List.map_drop]
theorem dC {l m:List Nat} {b:Nat} (h:(l.length+m.length)*b≤140737488355328) (h2:l.length+m.length≤9223372036854775807):app b (iz l) (iz m)=some (iz (l++m)):=by
 rw [sT (by simpa using h) (by simpa using h2),zXh]
theorem zTi {b n:Nat} (h:n*b≤281474976710656) (h2:n≤9223372036854775807):mkS b (0:Int) (n:Int) (n:Int)=some (iz (List.replicate n 0)):=by
 unfold mkS
 rw [if_pos ⟨by omega,by omega,by omega,by omega⟩]
 simp [iz]
theorem Io {s:ByteArray} {a b:Nat} (h:a≤b) (hb:b≤s.size):FY s (a:Int) (b:Int)=some (sb (((bs s).take b).drop a)):=by
 unfold FY
 rw [if_pos ⟨by omega,by omega,by omega⟩]
 congr 1
 apply Ti
 rw [pq (((iM s).take b).drop a)]
 obtain ⟨⟨l⟩⟩:=s
 unfold bs
 have e:(ByteArray.extract ⟨⟨l⟩⟩ (a:Int).toNat (b:Int).toNat).data.toList=(l.take b).drop a:=by
  rw [ByteArray.data_extract]
  simp [List.extract,List.take_drop]
  congr 2
  omega
 rw [e]
 simp [List.map_take,List.map_drop]
theorem Tj {s t:ByteArray} (h:s.size+t.size≤9223372036854775807):JK s t=some (sb (bs s++bs t)):=by
 unfold JK
 rw [if_pos h]
 congr 1
 apply Ti
 rw [pq ((iM s).app (iM t))]
 unfold bs
 rw [ByteArray.data_append]
 simp
theorem zUO {s:ByteArray} (h:s.size≤9223372036854775806):lu s=some (iz (bs s)):=by
 unfold lu
 rw [if_pos h,zHe]
theorem zLR (a b:ByteArray):(a.toList==b.toList)=decide (bs a=bs b):=by
 rw [zNV]
 by_cases h:a=b
 ·subst h; simp
 ·have:bs a≠bs b:=fun e=>h (Ti e)
  simp [h,this]
theorem zS {α:Type} {c:Bool} (h:c=true) (x y:α):(bif c then x else y)=x:=by rw [h]; rfl
theorem zM {α:Type} {c:Bool} (h:c=false) (x y:α):(bif c then x else y)=y:=by rw [h]; rfl
theorem wH {w a:Nat} (h:a<2 ^ w):(BitVec.ofInt w (a:Int)).toNat=a:=by
 rw [BitVec.toNat_ofInt]
 have:((a:Int) % ((2 ^ w:Nat):Int))=((a % 2 ^ w:Nat):Int):=by omega
 rw [this,Nat.mod_eq_of_lt h]
 rfl
theorem cJ {n:Nat} (h:n<256):wrap .u8 (n:Int)=(n:Int):=oC (by omega) (by omega)
theorem xO {n:Nat} (h:n<9223372036854775808):wrap .i64 (n:Int)=(n:Int):=zC (by omega) (by omega)
theorem lF {n:Nat} (h:n<18446744073709551616):wrap .u64 (n:Int)=(n:Int):=Ba (by omega) (by omega)
theorem pV {n:Nat} (h:n<4294967296):wrap .u32 (n:Int)=(n:Int):=zSy (by omega) (by omega)
theorem zOV {n:Nat} (h:n<65536):wrap .u16 (n:Int)=(n:Int):=Ik (by omega) (by omega)
theorem wT (n:Nat):wrap .u8 (n:Int)=((n % 256:Nat):Int):=by rw [Sr]; omega
theorem pz {a b:Nat} (ha:a<256) (hb:b<256):CZ .u8 (a:Int) (b:Int)=((a|||b:Nat):Int):=by
 unfold CZ
 rw [BitVec.toNat_or,wH (by exact ha),wH (by exact hb),cJ (Nat.or_lt_two_pow (n:=8) ha hb)]
theorem Ip {a b:Nat} (ha:a<4611686018427387904) (hb:b<4611686018427387904):CZ .i64 (a:Int) (b:Int)=((a|||b:Nat):Int):=by
 unfold CZ
 have:=Nat.or_lt_two_pow (x:=a) (y:=b) (n:=62) ha hb
 rw [BitVec.toNat_or,wH (by show a<2 ^ 64; omega),wH (by show b<2 ^ 64; omega),xO (by omega)]
theorem Be {a b:Nat} (ha:a<4294967296) (hb:b<4294967296):CZ .u32 (a:Int) (b:Int)=((a|||b:Nat):Int):=by
 unfold CZ
 rw [BitVec.toNat_or,wH (by exact ha),wH (by exact hb),pV (Nat.or_lt_two_pow (n:=32) ha hb)]
theorem zOI {a b:Nat} (ha:a<256) (hb:b<256):vL .u8 (a:Int) (b:Int)=((a&&&b:Nat):Int):=by
 unfold vL
 rw [BitVec.toNat_and,wH (by exact ha),wH (by exact hb),cJ (Nat.and_lt_two_pow (n:=8) a hb)]
theorem zSB {a b:Nat} (ha:a<4611686018427387904) (hb:b<4611686018427387904):vL .i64 (a:Int) (b:Int)=((a&&&b:Nat):Int):=by
 unfold vL
 have:=Nat.and_lt_two_pow (n:=62) a (y:=b) hb
 rw [BitVec.toNat_and,wH (by show a<2 ^ 64; omega),wH (by show b<2 ^ 64; omega),xO (by omega)]
theorem Iq {a s:Nat} (hs:s≤64) (h:a*2 ^ s<9223372036854775808):yM .i64 (a:Int) (s:Int)=((a*2 ^ s:Nat):Int):=by
 unfold yM
 have:min (s:Int).toNat (IntKind.bits .i64)=s:=by show min (s:Int).toNat 64=s; omega
 rw [this]
 have e:((a:Int)*2 ^ s)=((a*2 ^ s:Nat):Int):=by simp
 rw [e,xO h]
theorem zUX {a s:Nat} (hs:s≤8) (h:a*2 ^ s<256):yM .u8 (a:Int) (s:Int)=((a*2 ^ s:Nat):Int):=by
 unfold yM
 have:min (s:Int).toNat (IntKind.bits .u8)=s:=by show min (s:Int).toNat 8=s; omega
 rw [this]
 have e:((a:Int)*2 ^ s)=((a*2 ^ s:Nat):Int):=by simp
 rw [e,cJ h]
theorem jC {k:IntKind} {a s:Nat} (hs:s≤k.bits):xP k (a:Int) (s:Int)=((a / 2 ^ s:Nat):Int):=by
 unfold xP
 have:min (s:Int).toNat k.bits=s:=by omega
 rw [this,Int.fdiv_eq_ediv_of_nonneg _ (by exact Int.le_of_lt (Int.pow_pos (by omega)))]
 simp
theorem zKT {a s:Nat} (hs:s≤64) (h:a*2 ^ s<9223372036854775808):PG .i64 (a:Int) (s:Int)=some ((a*2 ^ s:Nat):Int):=by
 unfold PG
 rw [if_neg (by omega),Iq hs h]
theorem zTG {a s:Nat} (hs:s≤8) (h:a*2 ^ s<256):PG .u8 (a:Int) (s:Int)=some ((a*2 ^ s:Nat):Int):=by
 unfold PG
 rw [if_neg (by omega),zUX hs h]
theorem eO {a b s:Nat} (h:a<2 ^ s):a|||b*2 ^ s=a+b*2 ^ s:=by
 rw [Nat.or_comm,Nat.add_comm,Nat.mul_comm b]
 exact (Nat.two_pow_add_eq_or_of_lt h b).symm
theorem Bf (a b:Nat):((a:Nat):Int).tmod (b:Int)=((a % b:Nat):Int):=by
 rw [Int.tmod_eq_emod_of_nonneg (by omega)]
 omega
theorem dG (a b:Nat):((a:Nat):Int).tdiv (b:Int)=((a / b:Nat):Int):=by
 rw [Int.tdiv_eq_ediv_of_nonneg (by omega)]
 exact (Int.natCast_ediv a b).symm
def rep (L N:Nat):List Nat:=(List.range L).map fun j=>N / 256 ^ j % 256
@[simp] theorem RH (L N:Nat):(rep L N).length=L:=by simp [rep]
theorem zXp (L N:Nat):yN (rep L N):=fun x hx=>by
 obtain ⟨j,_,rfl⟩:=List.mem_map.1 hx
 exact Nat.mod_lt _ (by omega)
theorem Tm {L N j:Nat} (h:j<(rep L N).length):(rep L N)[j]=N / 256 ^ j % 256:=by simp [rep]
theorem Tn {L N j:Nat} (h:j<(rep L N).length) (hN:N<256 ^ (j+1)):(rep L N)[j]=N / 256 ^ j:=by
 rw [Tm]
 apply Nat.mod_eq_of_lt
 rw [Nat.div_lt_iff_lt_mul (Nat.pow_pos (by omega)),Nat.mul_comm,←Nat.pow_succ]
 exact hN
theorem Tq {L N j c:Nat} (hN:N+c*256 ^ j<256 ^ (j+1)):(rep L N).set j (N / 256 ^ j+c)=rep L (N+c*256 ^ j):=by
 have hp:0<256 ^ j:=Nat.pow_pos (by omega)
 apply List.ext_getElem
 ·simp
 intro i h1 h2
 simp only [List.length_set,RH] at h1
 rw [List.getElem_set,Tm,Tm]
 split
 ·rename_i e
  subst e
  rw [Nat.add_mul_div_right _ _ hp]
  refine (Nat.mod_eq_of_lt ?_).symm
  have:=(Nat.div_lt_iff_lt_mul (x:=N+c*256 ^ j) (y:=256) hp).2 (by rw [Nat.pow_succ] at hN; omega)
  rw [Nat.add_mul_div_right _ _ hp] at this
  exact this
 ·rename_i e
  rcases Nat.lt_or_ge i j with hij | hij
  ·obtain ⟨k,rfl⟩:∃ k,j=i+1+k:=⟨j - i - 1,by omega⟩
   have:c*256 ^ (i+1+k)=(c*256 ^ k*256)*256 ^ i:=by
    rw [Nat.pow_add,Nat.pow_succ]
    simp only [Nat.mul_assoc,Nat.mul_comm,Nat.mul_left_comm]
   rw [this,Nat.add_mul_div_right _ _ (Nat.pow_pos (by omega)),Nat.add_mul_mod_self_right]
  ·have hlt:256 ^ (j+1)≤256 ^ i:=Nat.pow_le_pow_right (by omega) (by omega)
   rw [Nat.div_eq_of_lt (by omega),Nat.div_eq_of_lt (by omega)]
theorem qf {l:List Nat} (h:l.length≤1000000) (x:Nat):app 1 (iz l) [((x:Nat):Int)]=some (iz (l++ [x])):=by
 have:=dC (l:=l) (m:= [x]) (b:=1) (by simp; omega) (by simp; omega)
 rw [KA,LW] at this
 exact this
abbrev CP:Int→Int→Bool:=Go.Sort.ltInt
open Go.Sort (swp insInner insOuter)
theorem yP {d:Array Int} {i:Nat} (h:i<d.size):AU d.toList (i:Int)=some d[i]!:=by
 rw [vS (by simpa using h)]
 simp [h]
theorem zMb {d:Array Int} {i:Nat} (h:i<d.size) (v:Int):xJ d.toList (i:Int) v=some (d.setIfInBounds i v).toList:=by
 unfold xJ
 rw [if_pos (by simp; omega)]
 simp
theorem xC (d:Array Int) (i j:Nat):(swp d i j).size=d.size:=by simp [swp]
theorem mR {d:Array Int} {i j:Nat} (hi:i<d.size) (hj:j<d.size) {β:Type} (k:List Int→Option β):(bnd (xJ d.toList (i:Int) d[j]!) fun l1=>bnd (AU l1 (j:Int)) fun _=>bnd (xJ l1 (j:Int) d[i]!) k)=k (swp d i j).toList:=by
 rw [zMb hi,AA,yP (by simpa using hj),AA,zMb (by simpa using hj),AA]
 rfl
theorem mG (x y:Int):zH x y=some (CP x y):=by
 unfold zH rS
 rw [AA,zM (by simp),AA]
 rfl
theorem wr {n:Nat} (h:n≤4611686018427387904):wrap .i64 (n:Int)=(n:Int):=zC (by omega) (by omega)
theorem MP {n:Nat} (h:n≤4611686018427387904):wrap .i64 ((n:Int)+1)=((n+1:Nat):Int):=by rw [zC (by omega) (by omega)]; rfl
theorem wrP {n:Nat} (h:n≤4611686018427387904):wrap .i64 (((n+1:Nat):Int) - 1)=(n:Int):=by rw [zC (by omega) (by omega)]; omega
def Bg (BB:Int):List Int × Int→Option (vM (List Int × Int) (List Int)):=(fun (s2:List Int × Int)=>bnd ((bif decide (s2.2>BB) then (bnd (AU s2.1 s2.2) fun x1=>bnd (AU s2.1 (wrap .i64 (s2.2 - 1))) fun x2=>bnd (zH x1 x2) fun r1=>some r1) else (some false):Option Bool)) fun o3=>bif o3 then (bnd (AU s2.1 (wrap .i64 (s2.2 - 1))) fun x3=>bnd (AU s2.1 (wrap .i64 (s2.2 - 1))) fun x4=>bnd (AU s2.1 s2.2) fun x5=>bnd (AU s2.1 s2.2) fun x6=>bnd (xJ s2.1 s2.2 x4) fun l1=>bnd (AU l1 (wrap .i64 (s2.2 - 1))) fun x7=>bnd (xJ l1 (wrap .i64 (s2.2 - 1)) x5) fun l2=>some (.next (l2,wrap .i64 (s2.2 - 1)))) else (some (.done s2.1)))
theorem zIP (a:Nat):∀ (j:Nat) (d:Array Int),j<d.size→d.size≤100000→zI (Bg (a:Int)) (d.toList,(j:Int))=some (insInner CP a j d).toList
 | 0,d,h,hs=>by
  refine zZ ?_
  unfold Bg
  simp only
  rw [zM (by simp),AA]
  rfl
 | j+1,d,h,hs=>by
  have hst:Bg (a:Int) (d.toList,((j+1:Nat):Int))=some (if (j+1>a&&CP d[j+1]! d[j]!) then .next ((swp d (j+1) j).toList,(j:Int)) else .done d.toList):=by
   unfold Bg
   simp only
   rw [wrP (by omega)]
   by_cases ha:j+1>a
   ·rw [zS (by simp; omega),yP h,AA,yP (show j<d.size by omega),AA,mG,AA,AA]
    cases hl:CP d[j+1]! d[j]!
    ·rw [cond_false,if_neg (by simp)]
    ·rw [cond_true,if_pos (by simp [ha]),AA,AA,AA,AA,mR h (by omega)]
   ·rw [zM (by simp; omega),AA,cond_false,if_neg (by simp; omega)]
  unfold insInner
  by_cases hc:(j+1>a&&CP d[j+1]! d[j]!)=true
  ·rw [if_pos hc] at hst ⊢
   exact yQ hst (zIP a j _ (by rw [xC]; omega) (by rw [xC]; omega))
  ·rw [if_neg hc] at hst ⊢
   exact zZ hst
theorem eM (a:Nat):∀ (j:Nat) (d:Array Int),(insInner CP a j d).size=d.size
 | 0,d=>rfl
 | j+1,d=>by
  unfold insInner
  split
  ·rw [eM a j,xC]
  ·rfl
def Bh (BB BO:Int):List Int × Int→Option (vM (List Int × Int) (List Int)):=(fun (s1:List Int × Int)=>bif decide (s1.2<BO) then (bnd (zI (τ:=List Int) (fun (s2:List Int × Int)=>bnd ((bif decide (s2.2>BB) then (bnd (AU s2.1 s2.2) fun x1=>bnd (AU s2.1 (wrap .i64 (s2.2 - 1))) fun x2=>bnd (zH x1 x2) fun r1=>some r1) else (some false):Option Bool)) fun o3=>bif o3 then (bnd (AU s2.1 (wrap .i64 (s2.2 - 1))) fun x3=>bnd (AU s2.1 (wrap .i64 (s2.2 - 1))) fun x4=>bnd (AU s2.1 s2.2) fun x5=>bnd (AU s2.1 s2.2) fun x6=>bnd (xJ s2.1 s2.2 x4) fun l1=>bnd (AU l1 (wrap .i64 (s2.2 - 1))) fun x7=>bnd (xJ l1 (wrap .i64 (s2.2 - 1)) x5) fun l2=>some (.next (l2,wrap .i64 (s2.2 - 1)))) else (some (.done s2.1))) (s1.1,s1.2)) fun o2=>some (.next (o2,wrap .i64 (s1.2+1)))) else (some (.done s1.1)))
theorem zIx (a b:Nat):∀ (k i:Nat) (d:Array Int),b - i=k→b≤d.size→d.size≤100000→zI (Bh (a:Int) (b:Int)) (d.toList,(i:Int))=some (insOuter CP a b i d).toList
 | 0,i,d,hk,hb,hs=>by
  refine zZ ?_
  unfold Bh insOuter
  simp only
  rw [zM (by simp; omega),if_neg (by omega)]
 | k+1,i,d,hk,hb,hs=>by
  have hst:Bh (a:Int) (b:Int) (d.toList,(i:Int))=some (.next ((insInner CP a i d).toList,((i+1:Nat):Int))):=by
   unfold Bh
   simp only
   rw [zS (by simp; omega)]
   have:=zIP a i d (by omega) hs
   unfold Bg at this
   rw [this,AA,MP (by omega)]
  unfold insOuter
  rw [if_pos (by omega)]
  exact yQ hst (zIx a b k (i+1) _ (by omega) (by rw [eM]; omega) (by rw [eM]; omega))
theorem zJw {d:Array Int} {a b:Nat} (hb:b≤d.size) (ha:a≤b) (hs:d.size≤100000):xM d.toList (a:Int) (b:Int)=some (Go.Sort.insertionSort CP d a b).toList:=by
 unfold xM
 rw [MP (by omega)]
 have:=zIx a b _ (a+1) d O hb hs
 unfold Bh at this
 rw [this]
 rfl
def bH (KU first:Int):List Int × Int→Option (vM (List Int × Int) ((List Int) ⊕ List Int)):=(fun (s1:List Int × Int)=>bif decide ((wrap .i64 ((wrap .i64 (2*s1.2))+1))≥KU) then (some (.done (.inr s1.1))) else (bnd ((bnd ((bif decide ((wrap .i64 ((wrap .i64 ((wrap .i64 (2*s1.2))+1))+1))<KU) then (bnd (AU s1.1 (wrap .i64 (first+(wrap .i64 ((wrap .i64 (2*s1.2))+1))))) fun x1=>bnd (AU s1.1 (wrap .i64 ((wrap .i64 (first+(wrap .i64 ((wrap .i64 (2*s1.2))+1))))+1))) fun x2=>bnd (zH x1 x2) fun r1=>some r1) else (some false):Option Bool)) fun o4=>bif o4 then (some (wrap .i64 ((wrap .i64 ((wrap .i64 (2*s1.2))+1))+1))) else (some (wrap .i64 ((wrap .i64 (2*s1.2))+1))):Option Int)) fun o3=>bnd (AU s1.1 (wrap .i64 (first+s1.2))) fun x3=>bnd (AU s1.1 (wrap .i64 (first+o3))) fun x4=>bnd (zH x3 x4) fun r2=>bif !r2 then (some (.done (.inl s1.1))) else (bnd (AU s1.1 (wrap .i64 (first+o3))) fun x5=>bnd (AU s1.1 (wrap .i64 (first+s1.2))) fun x6=>bnd (AU s1.1 (wrap .i64 (first+s1.2))) fun x7=>bnd (xJ s1.1 (wrap .i64 (first+s1.2)) x5) fun l1=>bnd (AU l1 (wrap .i64 (first+o3))) fun x8=>bnd (xJ l1 (wrap .i64 (first+o3)) x6) fun l2=>some (.next (l2,o3)))))
theorem zOD (hi first:Nat):∀ (k root:Nat) (d:Array Int),hi - root≤k→first+hi≤d.size→d.size≤100000→root≤100000→∃ o,zI (bH (hi:Int) (first:Int)) (d.toList,(root:Int))=some o∧(wN o fun o2=>some o2)=some (Go.Sort.siftDown CP hi first root d).toList
 | k,root,d,hk,hb,hs,hr=>by
  by_cases h1:2*root+1≥hi
  ·refine ⟨.inr d.toList,zZ ?_,?_⟩
   ·unfold bH
    simp only
    rw [zS (by rw [zC (x:=2*(root:Int)) (by omega) (by omega),zC (by omega) (by omega)]; simp; omega)]
   ·unfold Go.Sort.siftDown
    rw [dif_pos h1]
    rfl
  ·cases k with
   | zero=>omega
   | succ k=>
    have w1:wrap .i64 (wrap .i64 (2*(root:Int))+1)=((2*root+1:Nat):Int):=by
     rw [zC (x:=2*(root:Int)) (by omega) (by omega),zC (by omega) (by omega)]; omega
    have w2:∀ q:Nat,q≤300000→wrap .i64 ((first:Int)+(q:Int))=((first+q:Nat):Int):=fun q hq=>by rw [zC (by omega) (by omega)]; omega
    have hst:∀ c:Nat,c=(if (2*root+1+1<hi&&CP d[first+(2*root+1)]! d[first+(2*root+1)+1]!)=true then 2*root+2 else 2*root+1)→c<hi→bH (hi:Int) (first:Int) (d.toList,(root:Int))=some (if !CP d[first+root]! d[first+c]! then .done (.inl d.toList) else .next ((swp d (first+root) (first+c)).toList,(c:Int))):=by
     intro c hc hch
     unfold bH
     simp only
     rw [w1,zM (by simp; omega),MP (by omega),w2 _ (by omega),MP (by omega),w2 root (by omega)]
     have ho:(bif decide (((2*root+1+1:Nat):Int)<(hi:Int)) then (bnd (AU d.toList ((first+(2*root+1):Nat):Int)) fun x1=>bnd (AU d.toList ((first+(2*root+1)+1:Nat):Int)) fun x2=>bnd (zH x1 x2) fun r1=>some r1) else (some false):Option Bool)=some (2*root+1+1<hi&&CP d[first+(2*root+1)]! d[first+(2*root+1)+1]!):=by
      by_cases h2:2*root+1+1<hi
      ·rw [zS (by simp; omega),yP (by omega),AA,yP (by omega),AA,mG,AA]
       simp [h2]
      ·rw [zM (by simp; omega)]
       simp [h2]
     have ho2:(bnd (bif decide (((2*root+1+1:Nat):Int)<(hi:Int)) then (bnd (AU d.toList ((first+(2*root+1):Nat):Int)) fun x1=>bnd (AU d.toList ((first+(2*root+1)+1:Nat):Int)) fun x2=>bnd (zH x1 x2) fun r1=>some r1) else (some false):Option Bool) fun o4=>bif o4 then (some ((2*root+1+1:Nat):Int)) else (some ((2*root+1:Nat):Int)))=some (c:Int):=by
      rw [ho,AA,hc]
      cases (decide (2*root+1+1<hi)&&CP d[first+(2*root+1)]! d[first+(2*root+1)+1]!) <;> rfl
     rw [ho2,AA,w2 c (by omega),yP (by omega),AA,yP (by omega),AA,mG,AA]
     cases hl:CP d[first+root]! d[first+c]!
     ·rfl
     ·rw [zM (by rfl),AA,AA,AA,mR (by omega) (by omega)]
      rfl
    have go:∀ c:Nat,c=(if (2*root+1+1<hi&&CP d[first+(2*root+1)]! d[first+(2*root+1)+1]!)=true then 2*root+2 else 2*root+1)→c<hi→root<c→∃ o,zI (bH (hi:Int) (first:Int)) (d.toList,(root:Int))=some o∧(wN o fun o2=>some o2)=some (if !CP d[first+root]! d[first+c]! then d else Go.Sort.siftDown CP hi first c (swp d (first+root) (first+c))).toList:=by
     intro c hc hch hrc
     have h3:=hst c hc hch
     by_cases h4:(!CP d[first+root]! d[first+c]!)=true
     ·rw [if_pos h4] at h3 ⊢
      exact ⟨_,zZ h3,O⟩
     ·rw [if_neg h4] at h3 ⊢
      obtain ⟨o,h5,h6⟩:=zOD hi first k c (swp d (first+root) (first+c)) (by omega) (by rw [xC]; omega) (by rw [xC]; omega) (by omega)
      exact ⟨o,yQ h3 h5,h6⟩
    unfold Go.Sort.siftDown
    rw [dif_neg h1]
    by_cases h2:(decide (2*root+1+1<hi)&&CP d[first+(2*root+1)]! d[first+(2*root+1)+1]!)=true
    ·have h3:2*root+1+1<hi:=by simp at h2; exact h2.1
     rw [if_pos h2,dif_pos (show 2*root+2<hi by omega)]
     obtain ⟨o,h5,h6⟩:=go (2*root+2) (by rw [if_pos h2]) (by omega) (by omega)
     refine ⟨o,h5,h6.trans ?_⟩
     congr 1
    ·rw [if_neg h2]
     obtain ⟨o,h5,h6⟩:=go (2*root+1) (by rw [if_neg h2]) (by omega) (by omega)
     exact ⟨o,h5,h6⟩
section
open Go.Sort (swp)
theorem mY (hi first:Nat):∀ (k root:Nat) (d:Array Int),hi - root≤k→(Go.Sort.siftDown CP hi first root d).size=d.size
 | k,root,d,hk=>by
  unfold Go.Sort.siftDown
  split
  ·rfl
  ·cases k with
   | zero=>omega
   | succ k=>
    split
    ·split
     ·rfl
     ·split
      ·rw [mY hi first k _ _ (by omega),xC]
      ·rfl
    ·split
     ·rfl
     ·rw [mY hi first k _ _ (by omega),xC]
theorem zSI {hi first root:Nat} {d:Array Int} (hb:first+hi≤d.size) (hs:d.size≤100000) (hr:root≤100000):yK d.toList (root:Int) (hi:Int) (first:Int)=some (Go.Sort.siftDown CP hi first root d).toList:=by
 unfold yK
 obtain ⟨o,h1,h2⟩:=zOD hi first _ root d (Nat.le_refl _) hb hs hr
 unfold bH at h1
 rw [h1]
 exact h2
theorem kV {α:Type} {n:Nat} {l:List α} (h:l.length=n):yV n l=some l:=by
 unfold yV
 rw [if_pos h]
def Ir (BB BO:Int):List Int × Int→Option (vM (List Int × Int) (List Int)):=(fun (s1:List Int × Int)=>bif decide (s1.2≥0) then (bnd (yK s1.1 s1.2 (wrap .i64 (BO - BB)) BB) fun r1=>bnd (yV s1.1.length r1) fun l1=>some (.next (r1,wrap .i64 (s1.2 - 1)))) else (some (.done s1.1)))
theorem zLt (a b:Nat) (hab:a≤b):∀ (k:Nat) (d:Array Int),b≤d.size→d.size≤100000→k≤100000→zI (Ir (a:Int) (b:Int)) (d.toList,(k:Int) - 1)=some (Go.Sort.heapBuild CP (b - a) a k d).toList
 | 0,d,hb,hs,hk=>by
  refine zZ ?_
  unfold Ir
  simp only
  rw [zM (by simp)]
  rfl
 | k+1,d,hb,hs,hk=>by
  have e:((k+1:Nat):Int) - 1=(k:Int):=by omega
  rw [e]
  refine yQ ?_ (zLt a b hab k (Go.Sort.siftDown CP (b - a) a k d) (by rw [mY _ _ _ _ _ (Nat.le_refl _)]; exact hb) (by rw [mY _ _ _ _ _ (Nat.le_refl _)]; exact hs) (by omega))
  unfold Ir
  simp only
  have w:wrap .i64 ((b:Int) - (a:Int))=((b - a:Nat):Int):=by rw [zC (by omega) (by omega)]; omega
  rw [zS (by simp),w,zSI (by omega) hs (by omega),AA,kV (by simp [mY _ _ _ _ _ (Nat.le_refl _)]),AA,zC (by omega) (by omega)]
theorem Tt (hi first:Nat):∀ (k:Nat) (d:Array Int),(Go.Sort.heapBuild CP hi first k d).size=d.size
 | 0,d=>rfl
 | k+1,d=>by
  unfold Go.Sort.heapBuild
  rw [Tt hi first k,mY _ _ _ _ _ (Nat.le_refl _)]
def Iu (BB:Int):List Int × Int→Option (vM (List Int × Int) (List Int)):=(fun (s2:List Int × Int)=>bif decide (s2.2≥0) then (bnd (AU s2.1 (wrap .i64 (BB+s2.2))) fun x1=>bnd (AU s2.1 (wrap .i64 (BB+s2.2))) fun x2=>bnd (AU s2.1 BB) fun x3=>bnd (AU s2.1 BB) fun x4=>bnd (xJ s2.1 BB x2) fun l2=>bnd (AU l2 (wrap .i64 (BB+s2.2))) fun x5=>bnd (xJ l2 (wrap .i64 (BB+s2.2)) x3) fun l3=>bnd (yK l3 0 s2.2 BB) fun r2=>bnd (yV l3.length r2) fun l4=>some (.next (r2,wrap .i64 (s2.2 - 1)))) else (some (.done s2.1)))
theorem zQH (a:Nat):∀ (k:Nat) (d:Array Int),a+k≤d.size→d.size≤100000→zI (Iu (a:Int)) (d.toList,(k:Int) - 1)=some (Go.Sort.heapPop CP a k d).toList
 | 0,d,hb,hs=>by
  refine zZ ?_
  unfold Iu
  simp only
  rw [zM (by simp)]
  rfl
 | k+1,d,hb,hs=>by
  have e:((k+1:Nat):Int) - 1=(k:Int):=by omega
  rw [e]
  have hsz:(Go.Sort.siftDown CP k a 0 (swp d a (a+k))).size=d.size:=by rw [mY _ _ _ _ _ (Nat.le_refl _),xC]
  refine yQ ?_ (zQH a k (Go.Sort.siftDown CP k a 0 (swp d a (a+k))) (by rw [hsz]; omega) (by rw [hsz]; exact hs))
  unfold Iu
  simp only
  have w:wrap .i64 ((a:Int)+(k:Int))=((a+k:Nat):Int):=by rw [zC (by omega) (by omega)]; omega
  rw [zS (by simp),w,yP (by omega),AA,AA,yP (show a<d.size by omega),AA,AA,mR (by omega) (by omega)]
  have:=zSI (hi:=k) (first:=a) (root:=0) (d:=swp d a (a+k)) (by rw [xC]; omega) (by rw [xC]; exact hs) (by omega)
  rw [show yK (swp d a (a+k)).toList 0 (k:Int) (a:Int)=_ from this,AA,kV (by simp [mY _ _ _ _ _ (Nat.le_refl _)]),AA,zC (by omega) (by omega)]
theorem zUs {d:Array Int} {a b:Nat} (hab:a<b) (hb:b≤d.size) (hs:d.size≤100000):wO d.toList (a:Int) (b:Int)=some (Go.Sort.heapSort CP d a b).toList:=by
 unfold wO
 have w:wrap .i64 ((b:Int) - (a:Int))=((b - a:Nat):Int):=by rw [zC (by omega) (by omega)]; omega
 rw [w,zC (x:=((b - a:Nat):Int) - 1) (by omega) (by omega)]
 have e:(((b - a:Nat):Int) - 1).tdiv 2=(((b - a - 1) / 2+1:Nat):Int) - 1:=by
  have h1:((b - a:Nat):Int) - 1=((b - a - 1:Nat):Int):=by omega
  rw [h1]
  have h2:((b - a - 1:Nat):Int).tdiv ((2:Nat):Int)=(((b - a - 1) / 2:Nat):Int):=dG _ _
  have h3:((b - a - 1:Nat):Int).tdiv 2=(((b - a - 1) / 2:Nat):Int):=h2
  rw [h3]
  omega
 rw [e,zC (x:=(((b - a - 1) / 2+1:Nat):Int) - 1) (by omega) (by omega)]
 have h1:=zLt a b (by omega) ((b - a - 1) / 2+1) d hb hs (by omega)
 unfold Ir at h1
 rw [w] at h1
 rw [h1,AA]
 have h2:=zQH a (b - a) (Go.Sort.heapBuild CP (b - a) a ((b - a - 1) / 2+1) d) (by rw [Tt]; omega) (by rw [Tt]; exact hs)
 unfold Iu at h2
 rw [h2]
 rfl
def Iw:List Int × Int × Int→Option (vM (List Int × Int × Int) (List Int)):=(fun (s1:List Int × Int × Int)=>bif decide (s1.2.1<s1.2.2) then (bnd (AU s1.1 s1.2.2) fun x1=>bnd (AU s1.1 s1.2.2) fun x2=>bnd (AU s1.1 s1.2.1) fun x3=>bnd (AU s1.1 s1.2.1) fun x4=>bnd (xJ s1.1 s1.2.1 x2) fun l1=>bnd (AU l1 s1.2.2) fun x5=>bnd (xJ l1 s1.2.2 x3) fun l2=>some (.next (l2,wrap .i64 (s1.2.1+1),wrap .i64 (s1.2.2 - 1)))) else (some (.done s1.1)))
theorem zMi:∀ (k i j:Nat) (d:Array Int),j - i≤k→j<d.size→d.size≤100000→i≤100000→zI Iw (d.toList,(i:Int),(j:Int))=some (Go.Sort.reverseLoop i j d).toList
 | k,i,j,d,hk,hj,hs,hi=>by
  unfold Go.Sort.reverseLoop
  by_cases h:i<j
  ·rw [if_pos h]
   cases k with
   | zero=>omega
   | succ k=>
    refine yQ ?_ (zMi k (i+1) (j - 1) (swp d i j) (by omega) (by rw [xC]; omega) (by rw [xC]; exact hs) (by omega))
    unfold Iw
    simp only
    rw [zS (by simp; omega),yP hj,AA,AA,yP (show i<d.size by omega),AA,AA,mR (by omega) (by omega),MP (by omega),zC (by omega) (by omega)]
    rw [show ((j:Int) - 1)=((j - 1:Nat):Int) by omega]
  ·rw [if_neg h]
   refine zZ ?_
   unfold Iw
   simp only
   rw [zM (by simp; omega)]
theorem zNd {d:Array Int} {a b:Nat} (hab:a<b) (hb:b≤d.size) (hs:d.size≤100000):yY d.toList (a:Int) (b:Int)=some (Go.Sort.reverseRange d a b).toList:=by
 unfold yY
 rw [zC (x:=(b:Int) - 1) (by omega) (by omega),show ((b:Int) - 1)=((b - 1:Nat):Int) by omega]
 have:=zMi _ a (b - 1) d (Nat.le_refl _) (by omega) hs (by omega)
 unfold Iw at this
 rw [this]
 rfl
end
section
open Go.Sort (swp scanUp scanDown partLoop partEqLoop)
theorem Tv {m:Int→Option (vM Int Int)} {p:Int→Bool} {d:Array Int} {j:Nat} (hm:∀ i:Nat,i≤100001→m (i:Int)=some (if (decide (i≤j)&&p d[i]!)=true then .next ((i+1:Nat):Int) else .done (i:Int))) (hj:j≤100000):∀ (k i:Nat),j+1 - i≤k→i≤100001→zI m (i:Int)=some ((scanUp p d j i:Nat):Int)
 | k,i,hk,hi=>by
  have h1:=hm i hi
  unfold scanUp
  by_cases h:(decide (i≤j)&&p d[i]!)=true
  ·have h2:i≤j:=by simp at h; exact h.1
   rw [if_pos h] at h1 ⊢
   cases k with
   | zero=>omega
   | succ k=>exact yQ h1 (Tv hm hj k (i+1) (by omega) (by omega))
  ·rw [if_neg h] at h1 ⊢
   exact zZ h1
theorem Tz {m:Int→Option (vM Int Int)} {p:Int→Bool} {d:Array Int} {i J:Nat} (hi:1≤i) (hm:∀ j:Nat,j≤J→m (j:Int)=some (if (decide (i≤j)&&p d[j]!)=true then .next ((j:Int) - 1) else .done (j:Int))):∀ (j:Nat),j≤J→zI m (j:Int)=some ((scanDown p d i j:Nat):Int)
 | 0,hj=>by
  have h1:=hm 0 hj
  rw [if_neg (by simp; omega)] at h1
  exact zZ h1
 | j+1,hj=>by
  have h1:=hm (j+1) hj
  unfold scanDown
  by_cases h:(decide (i≤j+1)&&p d[j+1]!)=true
  ·rw [if_pos h] at h1 ⊢
   rw [show (((j+1:Nat):Int) - 1)=(j:Int) by omega] at h1
   exact yQ h1 (Tz hi hm j (by omega))
  ·rw [if_neg h] at h1 ⊢
   exact zZ h1
theorem dN (p:Int→Bool) (d:Array Int) (j:Nat):∀ (k i:Nat),j+1 - i≤k→i≤scanUp p d j i∧(scanUp p d j i≤j+1∨scanUp p d j i=i)
 | k,i,hk=>by
  unfold scanUp
  by_cases h:(decide (i≤j)&&p d[i]!)=true
  ·have h2:i≤j:=by simp at h; exact h.1
   rw [if_pos h]
   cases k with
   | zero=>omega
   | succ k=>
    have:=dN p d j k (i+1) (by omega)
    omega
  ·rw [if_neg h]
   omega
def Iy (l:List Int) (BB j:Int):Int→Option (vM Int Int):=(fun (s4:Int)=>bnd ((bif decide (s4≤j) then (bnd (AU l s4) fun x18=>bnd (AU l BB) fun x19=>bnd (zH x18 x19) fun r3=>some r3) else (some false):Option Bool)) fun o7=>bif o7 then (some (.next (wrap .i64 (s4+1)))) else (some (.done s4)))
def Iz (l:List Int) (BB o6:Int):Int→Option (vM Int Int):=(fun (s5:Int)=>bnd ((bif decide (o6≤s5) then (bnd (AU l s5) fun x20=>bnd (AU l BB) fun x21=>bnd (zH x20 x21) fun r4=>some (!r4)) else (some false):Option Bool)) fun o9=>bif o9 then (some (.next (wrap .i64 (s5 - 1)))) else (some (.done s5)))
theorem zVJ {d:Array Int} {a j:Nat} (ha:a<d.size) (hj:j<d.size) (hs:d.size≤100000) (i:Nat) (hi:i≤100001):zI (Iy d.toList (a:Int) (j:Int)) (i:Int)=some ((scanUp (fun x=>CP x d[a]!) d j i:Nat):Int):=by
 refine Tv (fun i hi=>?_) (by omega) _ i (Nat.le_refl _) hi
 unfold Iy
 by_cases h:i≤j
 ·rw [zS (by simp; omega),yP (by omega),AA,yP ha,AA,mG,AA,AA,MP (by omega)]
  simp only [h,decide_true,Bool.true_and]
  cases CP d[i]! d[a]! <;> rfl
 ·rw [zM (by simp; omega),AA,cond_false,if_neg (by simp [h])]
theorem zVe {d:Array Int} {a i:Nat} (ha:a<d.size) (hs:d.size≤100000) (hi:1≤i) (j:Nat) (hj:j<d.size):zI (Iz d.toList (a:Int) (i:Int)) (j:Int)=some ((scanDown (fun x=>!CP x d[a]!) d i j:Nat):Int):=by
 refine Tz hi (J:=j) (fun q hq=>?_) j (Nat.le_refl _)
 unfold Iz
 by_cases h:i≤q
 ·rw [zS (by simp; omega),yP (by omega),AA,yP ha,AA,mG,AA,AA,zC (by omega) (by omega)]
  simp only [h,decide_true,Bool.true_and]
  cases CP d[q]! d[a]! <;> rfl
 ·rw [zM (by simp; omega),AA,cond_false,if_neg (by simp [h])]
def Ja (BB:Int):List Int × Int × Int→Option (vM (List Int × Int × Int) (List Int × Int)):=(fun (s3:List Int × Int × Int)=>bnd (zI (τ:=Int) (fun (s4:Int)=>bnd ((bif decide (s4≤s3.2.2) then (bnd (AU s3.1 s4) fun x18=>bnd (AU s3.1 BB) fun x19=>bnd (zH x18 x19) fun r3=>some r3) else (some false):Option Bool)) fun o7=>bif o7 then (some (.next (wrap .i64 (s4+1)))) else (some (.done s4))) s3.2.1) fun o6=>bnd (zI (τ:=Int) (fun (s5:Int)=>bnd ((bif decide (o6≤s5) then (bnd (AU s3.1 s5) fun x20=>bnd (AU s3.1 BB) fun x21=>bnd (zH x20 x21) fun r4=>some (!r4)) else (some false):Option Bool)) fun o9=>bif o9 then (some (.next (wrap .i64 (s5 - 1)))) else (some (.done s5))) s3.2.2) fun o8=>bif decide (o6>o8) then (some (.done (s3.1,o8))) else (bnd (AU s3.1 o8) fun Ij=>bnd (AU s3.1 o6) fun x23=>bnd (AU s3.1 o6) fun x24=>bnd (xJ s3.1 o6 Ij) fun l7=>bnd (AU l7 o8) fun x25=>bnd (xJ l7 o8 x23) fun l8=>some (.next (l8,wrap .i64 (o6+1),wrap .i64 (o8 - 1)))))
theorem zNQ (a:Nat):∀ (k i j:Nat) (d:Array Int),j+1 - i≤k→a<d.size→j<d.size→d.size≤100000→1≤i→i≤100001→zI (Ja (a:Int)) (d.toList,(i:Int),(j:Int))=some ((partLoop CP a i j d).2.toList,((partLoop CP a i j d).1:Int))
 | k,i,j,d,hk,ha,hj,hs,hi1,hi=>by
  have h1:=zVJ ha hj hs i hi
  have h2:=dN (fun x=>CP x d[a]!) d j _ i (Nat.le_refl _)
  have h3:=zVe (i:=scanUp (fun x=>CP x d[a]!) d j i) ha hs (by omega) j hj
  have h4:=Go.Sort.scanDown_le (fun x=>!CP x d[a]!) d (scanUp (fun x=>CP x d[a]!) d j i) j
  rw [Go.Sort.partLoop_eq]
  revert h1 h2 h3 h4
  generalize scanUp (fun x=>CP x d[a]!) d j i=i2
  generalize scanDown (fun x=>!CP x d[a]!) d i2 j=j2
  intro h1 h2 h3 h4
  unfold Iy at h1
  unfold Iz at h3
  by_cases hgt:i2>j2
  ·rw [if_pos hgt]
   refine zZ ?_
   unfold Ja
   simp only
   rw [h1,AA,h3,AA,zS (by simp; omega)]
  ·rw [if_neg hgt]
   cases k with
   | zero=>omega
   | succ k=>
    refine yQ ?_ (zNQ a k (i2+1) (j2 - 1) (swp d i2 j2) (by omega) (by rw [xC]; exact ha) (by rw [xC]; omega) (by rw [xC]; exact hs) (by omega) (by omega))
    unfold Ja
    simp only
    rw [h1,AA,h3,AA,zM (by simp; omega),yP (show j2<d.size by omega),AA,yP (show i2<d.size by omega),AA,AA,mR (by omega) (by omega),MP (by omega),zC (by omega) (by omega),show ((j2:Int) - 1)=((j2 - 1:Nat):Int) by omega]
theorem zEX (a:Nat):∀ (k i j:Nat) (d:Array Int),j+1 - i≤k→(partLoop CP a i j d).2.size=d.size∧(partLoop CP a i j d).1≤j
 | k,i,j,d,hk=>by
  have h2:=dN (fun x=>CP x d[a]!) d j _ i (Nat.le_refl _)
  have h4:=Go.Sort.scanDown_le (fun x=>!CP x d[a]!) d (scanUp (fun x=>CP x d[a]!) d j i) j
  rw [Go.Sort.partLoop_eq]
  split
  ·exact ⟨O,h4⟩
  ·cases k with
   | zero=>omega
   | succ k=>
    have:=zEX a k (scanUp (fun x=>CP x d[a]!) d j i+1) (scanDown (fun x=>!CP x d[a]!) d (scanUp (fun x=>CP x d[a]!) d j i) j - 1) (swp d (scanUp (fun x=>CP x d[a]!) d j i) (scanDown (fun x=>!CP x d[a]!) d (scanUp (fun x=>CP x d[a]!) d j i) j)) (by omega)
    rw [xC] at this
    omega
theorem zKz {d:Array Int} {a b pivot:Nat} (hab:a<b) (hb:b≤d.size) (hp:pivot<d.size) (hs:d.size≤100000):xL d.toList (a:Int) (b:Int) (pivot:Int)=some ((Go.Sort.partition CP d a b pivot).2.2.toList,((Go.Sort.partition CP d a b pivot).1:Int),(Go.Sort.partition CP d a b pivot).2.1):=by
 unfold xL Go.Sort.partition
 rw [yP hp,AA,AA,yP (show a<d.size by omega),AA,AA,mR (by omega) hp,zC (x:=(b:Int) - 1) (by omega) (by omega),show ((b:Int) - 1)=((b - 1:Nat):Int) by omega,MP (by omega)]
 simp only
 have hs1:(swp d a pivot).size=d.size:=xC _ _ _
 revert hs1
 generalize swp d a pivot=e
 intro hs1
 have h1:=zVJ (d:=e) (a:=a) (j:=b - 1) (by omega) (by omega) (by omega) (a+1) (by omega)
 have h2:=dN (fun x=>CP x e[a]!) e (b - 1) _ (a+1) (Nat.le_refl _)
 have h3:=zVe (d:=e) (a:=a) (i:=scanUp (fun x=>CP x e[a]!) e (b - 1) (a+1)) (by omega) (by omega) (by omega) (b - 1) (by omega)
 have h4:=Go.Sort.scanDown_le (fun x=>!CP x e[a]!) e (scanUp (fun x=>CP x e[a]!) e (b - 1) (a+1)) (b - 1)
 revert h1 h2 h3 h4
 generalize scanUp (fun x=>CP x e[a]!) e (b - 1) (a+1)=i2
 generalize scanDown (fun x=>!CP x e[a]!) e i2 (b - 1)=j2
 intro h1 h2 h3 h4
 unfold Iy at h1
 unfold Iz at h3
 rw [h1,AA,h3,AA]
 by_cases hgt:i2>j2
 ·rw [zS (by simp; omega),if_pos hgt,yP (show a<e.size by omega),AA,yP (show j2<e.size by omega),AA,AA,mR (by omega) (by omega)]
 ·rw [zM (by simp; omega),if_neg hgt,yP (show j2<e.size by omega),AA,yP (show i2<e.size by omega),AA,AA,mR (by omega) (by omega),MP (by omega),zC (x:=(j2:Int) - 1) (by omega) (by omega),show ((j2:Int) - 1)=((j2 - 1:Nat):Int) by omega]
  have h5:=zNQ a _ (i2+1) (j2 - 1) (swp e i2 j2) (Nat.le_refl _) (by rw [xC]; omega) (by rw [xC]; omega) (by rw [xC]; omega) (by omega) (by omega)
  have h6:=zEX a _ (i2+1) (j2 - 1) (swp e i2 j2) (Nat.le_refl _)
  rw [xC] at h6
  unfold Ja at h5
  rw [h5,AA]
  simp only
  rw [yP (show a<_ by rw [h6.1]; omega),AA,yP (show _<_ by rw [h6.1]; omega),AA,AA,mR (by rw [h6.1]; omega) (by rw [h6.1]; omega)]
def Ua (l:List Int) (BB o2:Int):Int→Option (vM Int Int):=(fun (s3:Int)=>bnd ((bif decide (o2≤s3) then (bnd (AU l BB) fun x8=>bnd (AU l s3) fun x9=>bnd (zH x8 x9) fun r2=>some r2) else (some false):Option Bool)) fun o5=>bif o5 then (some (.next (wrap .i64 (s3 - 1)))) else (some (.done s3)))
def Ub (l:List Int) (BB j:Int):Int→Option (vM Int Int):=(fun (s2:Int)=>bnd ((bif decide (s2≤j) then (bnd (AU l BB) fun x6=>bnd (AU l s2) fun x7=>bnd (zH x6 x7) fun r1=>some (!r1)) else (some false):Option Bool)) fun o3=>bif o3 then (some (.next (wrap .i64 (s2+1)))) else (some (.done s2)))
theorem zYi {d:Array Int} {a j:Nat} (ha:a<d.size) (hj:j<d.size) (hs:d.size≤100000) (i:Nat) (hi:i≤100001):zI (Ub d.toList (a:Int) (j:Int)) (i:Int)=some ((scanUp (fun x=>!CP d[a]! x) d j i:Nat):Int):=by
 refine Tv (fun i hi=>?_) (by omega) _ i (Nat.le_refl _) hi
 unfold Ub
 by_cases h:i≤j
 ·rw [zS (by simp; omega),yP ha,AA,yP (by omega),AA,mG,AA,AA,MP (by omega)]
  simp only [h,decide_true,Bool.true_and]
  cases CP d[a]! d[i]! <;> rfl
 ·rw [zM (by simp; omega),AA,cond_false,if_neg (by simp [h])]
theorem zYw {d:Array Int} {a i:Nat} (ha:a<d.size) (hs:d.size≤100000) (hi:1≤i) (j:Nat) (hj:j<d.size):zI (Ua d.toList (a:Int) (i:Int)) (j:Int)=some ((scanDown (fun x=>CP d[a]! x) d i j:Nat):Int):=by
 refine Tz hi (J:=j) (fun q hq=>?_) j (Nat.le_refl _)
 unfold Ua
 by_cases h:i≤q
 ·rw [zS (by simp; omega),yP ha,AA,yP (by omega),AA,mG,AA,AA,zC (by omega) (by omega)]
  simp only [h,decide_true,Bool.true_and]
  cases CP d[a]! d[q]! <;> rfl
 ·rw [zM (by simp; omega),AA,cond_false,if_neg (by simp [h])]
def Jb (BB:Int):List Int × Int × Int→Option (vM (List Int × Int × Int) (List Int × Int)):=(fun (s1:List Int × Int × Int)=>bnd (zI (τ:=Int) (fun (s2:Int)=>bnd ((bif decide (s2≤s1.2.2) then (bnd (AU s1.1 BB) fun x6=>bnd (AU s1.1 s2) fun x7=>bnd (zH x6 x7) fun r1=>some (!r1)) else (some false):Option Bool)) fun o3=>bif o3 then (some (.next (wrap .i64 (s2+1)))) else (some (.done s2))) s1.2.1) fun o2=>bnd (zI (τ:=Int) (fun (s3:Int)=>bnd ((bif decide (o2≤s3) then (bnd (AU s1.1 BB) fun x8=>bnd (AU s1.1 s3) fun x9=>bnd (zH x8 x9) fun r2=>some r2) else (some false):Option Bool)) fun o5=>bif o5 then (some (.next (wrap .i64 (s3 - 1)))) else (some (.done s3))) s1.2.2) fun o4=>bif decide (o2>o4) then (some (.done (s1.1,o2))) else (bnd (AU s1.1 o4) fun x10=>bnd (AU s1.1 o2) fun x11=>bnd (AU s1.1 o2) fun x12=>bnd (xJ s1.1 o2 x10) fun l3=>bnd (AU l3 o4) fun OJ=>bnd (xJ l3 o4 x11) fun l4=>some (.next (l4,wrap .i64 (o2+1),wrap .i64 (o4 - 1)))))
theorem zNS (a:Nat):∀ (k i j:Nat) (d:Array Int),j+1 - i≤k→a<d.size→j<d.size→d.size≤100000→1≤i→i≤100001→zI (Jb (a:Int)) (d.toList,(i:Int),(j:Int))=some ((partEqLoop CP a i j d).2.toList,((partEqLoop CP a i j d).1:Int))
 | k,i,j,d,hk,ha,hj,hs,hi1,hi=>by
  have h1:=zYi ha hj hs i hi
  have h2:=dN (fun x=>!CP d[a]! x) d j _ i (Nat.le_refl _)
  have h3:=zYw (i:=scanUp (fun x=>!CP d[a]! x) d j i) ha hs (by omega) j hj
  have h4:=Go.Sort.scanDown_le (fun x=>CP d[a]! x) d (scanUp (fun x=>!CP d[a]! x) d j i) j
  rw [Go.Sort.partEqLoop_eq]
  revert h1 h2 h3 h4
  generalize scanUp (fun x=>!CP d[a]! x) d j i=i2
  generalize scanDown (fun x=>CP d[a]! x) d i2 j=j2
  intro h1 h2 h3 h4
  unfold Ub at h1
  unfold Ua at h3
  by_cases hgt:i2>j2
  ·rw [if_pos hgt]
   refine zZ ?_
   unfold Jb
   simp only
   rw [h1,AA,h3,AA,zS (by simp; omega)]
  ·rw [if_neg hgt]
   cases k with
   | zero=>omega
   | succ k=>
    refine yQ ?_ (zNS a k (i2+1) (j2 - 1) (swp d i2 j2) (by omega) (by rw [xC]; exact ha) (by rw [xC]; omega) (by rw [xC]; exact hs) (by omega) (by omega))
    unfold Jb
    simp only
    rw [h1,AA,h3,AA,zM (by simp; omega),yP (show j2<d.size by omega),AA,yP (show i2<d.size by omega),AA,AA,mR (by omega) (by omega),MP (by omega),zC (by omega) (by omega),show ((j2:Int) - 1)=((j2 - 1:Nat):Int) by omega]
theorem zDh {d:Array Int} {a b pivot:Nat} (hab:a<b) (hb:b≤d.size) (hp:pivot<d.size) (hs:d.size≤100000):yS d.toList (a:Int) (b:Int) (pivot:Int)=some ((Go.Sort.partitionEqual CP d a b pivot).2.toList,((Go.Sort.partitionEqual CP d a b pivot).1:Int)):=by
 unfold yS
 rw [yP hp,AA,AA,yP (show a<d.size by omega),AA,AA,mR (by omega) hp,zC (x:=(b:Int) - 1) (by omega) (by omega),show ((b:Int) - 1)=((b - 1:Nat):Int) by omega,MP (by omega)]
 have h5:=zNS a _ (a+1) (b - 1) (swp d a pivot) (Nat.le_refl _) (by rw [xC]; omega) (by rw [xC]; omega) (by rw [xC]; omega) (by omega) (by omega)
 unfold Jb at h5
 rw [h5]
 rfl
end
open Go.Sort (swp scanSorted shiftDown shiftUp partialIns order2 median medianAdjacent choosePivot Hint bitsLen xorNext breakStep breakPatterns)
def Jc (l:List Int) (BO:Int):Int→Option (vM Int Int):=(fun (s2:Int)=>bnd ((bif decide (s2<BO) then (bnd (AU l s2) fun x1=>bnd (AU l (wrap .i64 (s2 - 1))) fun x2=>bnd (zH x1 x2) fun r1=>some (!r1)) else (some false):Option Bool)) fun o4=>bif o4 then (some (.next (wrap .i64 (s2+1)))) else (some (.done s2)))
theorem zVk {d:Array Int} {b:Nat} (hb:b≤d.size) (hs:d.size≤100000):∀ (k i:Nat),b - i≤k→1≤i→zI (Jc d.toList (b:Int)) (i:Int)=some ((scanSorted CP d b i:Nat):Int)
 | k,i,hk,hi=>by
  have hst:Jc d.toList (b:Int) (i:Int)=some (if (decide (i<b)&&!CP d[i]! d[i - 1]!)=true then .next ((i+1:Nat):Int) else .done (i:Int)):=by
   unfold Jc
   by_cases h:i<b
   ·rw [zS (by simp; omega),yP (by omega),AA,zC (by omega) (by omega),show ((i:Int) - 1)=((i - 1:Nat):Int) by omega,yP (by omega),AA,mG,AA,AA,MP (by omega)]
    simp only [h,decide_true,Bool.true_and]
    cases CP d[i]! d[i - 1]! <;> rfl
   ·rw [zM (by simp; omega),AA,cond_false,if_neg (by simp [h])]
  unfold scanSorted
  by_cases h:(decide (i<b)&&!CP d[i]! d[i - 1]!)=true
  ·have h2:i<b:=by simp at h; exact h.1
   rw [if_pos h] at hst ⊢
   cases k with
   | zero=>omega
   | succ k=>exact yQ hst (zVk hb hs k (i+1) (by omega) (by omega))
  ·rw [if_neg h] at hst ⊢
   exact zZ hst
theorem zVC (d:Array Int) (b:Nat):∀ (k i:Nat),b - i≤k→i≤b→i≤scanSorted CP d b i∧scanSorted CP d b i≤b
 | k,i,hk,hi=>by
  unfold scanSorted
  by_cases h:(decide (i<b)&&!CP d[i]! d[i - 1]!)=true
  ·have h2:i<b:=by simp at h; exact h.1
   rw [if_pos h]
   cases k with
   | zero=>omega
   | succ k=>
    have:=zVC d b k (i+1) (by omega) (by omega)
    omega
  ·rw [if_neg h]
   omega
def qg:List Int × Int→Option (vM (List Int × Int) (List Int)):=(fun (s3:List Int × Int)=>bif decide (s3.2≥1) then (bnd (AU s3.1 s3.2) fun x8=>bnd (AU s3.1 (wrap .i64 (s3.2 - 1))) fun x9=>bnd (zH x8 x9) fun r2=>bif !r2 then (some (.done s3.1)) else (bnd (AU s3.1 (wrap .i64 (s3.2 - 1))) fun x10=>bnd (AU s3.1 s3.2) fun x11=>bnd (AU s3.1 s3.2) fun x12=>bnd (xJ s3.1 s3.2 x10) fun l3=>bnd (AU l3 (wrap .i64 (s3.2 - 1))) fun OJ=>bnd (xJ l3 (wrap .i64 (s3.2 - 1)) x11) fun l4=>some (.next (l4,wrap .i64 (s3.2 - 1))))) else (some (.done s3.1)))
theorem zVl:∀ (j:Nat) (d:Array Int),j<d.size→d.size≤100000→zI qg (d.toList,(j:Int))=some (shiftDown CP j d).toList
 | 0,d,h,hs=>by
  refine zZ ?_
  unfold qg
  simp only
  rw [zM (by simp)]
  rfl
 | j+1,d,h,hs=>by
  have hst:qg (d.toList,((j+1:Nat):Int))=some (if (!CP d[j+1]! d[j]!)=true then .done d.toList else .next ((swp d (j+1) j).toList,(j:Int))):=by
   unfold qg
   simp only
   rw [zS (by simp; omega),wrP (by omega),yP h,AA,yP (show j<d.size by omega),AA,mG,AA]
   cases CP d[j+1]! d[j]!
   ·rfl
   ·rw [zM (by rfl),AA,AA,AA,mR h (by omega)]
    rfl
  unfold shiftDown
  by_cases hc:(!CP d[j+1]! d[j]!)=true
  ·rw [if_pos hc] at hst ⊢
   exact zZ hst
  ·rw [if_neg hc] at hst ⊢
   exact yQ hst (zVl j _ (by rw [xC]; omega) (by rw [xC]; omega))
theorem zOK:∀ (j:Nat) (d:Array Int),(shiftDown CP j d).size=d.size
 | 0,d=>rfl
 | j+1,d=>by
  unfold shiftDown
  split
  ·rfl
  ·rw [zOK j,xC]
def Bj (BO:Int):List Int × Int→Option (vM (List Int × Int) (List Int)):=(fun (s4:List Int × Int)=>bif decide (s4.2<BO) then (bnd (AU s4.1 s4.2) fun x14=>bnd (AU s4.1 (wrap .i64 (s4.2 - 1))) fun x15=>bnd (zH x14 x15) fun r3=>bif !r3 then (some (.done s4.1)) else (bnd (AU s4.1 (wrap .i64 (s4.2 - 1))) fun x16=>bnd (AU s4.1 s4.2) fun x17=>bnd (AU s4.1 s4.2) fun x18=>bnd (xJ s4.1 s4.2 x16) fun l5=>bnd (AU l5 (wrap .i64 (s4.2 - 1))) fun x19=>bnd (xJ l5 (wrap .i64 (s4.2 - 1)) x17) fun l6=>some (.next (l6,wrap .i64 (s4.2+1))))) else (some (.done s4.1)))
theorem zVf (b:Nat):∀ (k j:Nat) (d:Array Int),b - j≤k→1≤j→b≤d.size→d.size≤100000→zI (Bj (b:Int)) (d.toList,(j:Int))=some (shiftUp CP b j d).toList
  | k,j,d,hk,hj,hb,hs=>by
    unfold shiftUp
    by_cases h:j<b
    · rw [if_pos h]
      have hst:Bj (b:Int) (d.toList,(j:Int))=some (if (!CP d[j]! d[j - 1]!)=true then .done d.toList else .next ((swp d j (j - 1)).toList,((j+1:Nat):Int))):=by
        unfold Bj
        simp only
        rw [zS (by simp; omega),zC (x:=(j:Int) - 1) (by omega) (by omega),show ((j:Int) - 1)=((j - 1:Nat):Int) by omega,yP (by omega),AA,yP (by omega),AA,mG,AA]
        cases CP d[j]! d[j - 1]!
        · rfl
        · rw [zM (by rfl), AA, AA, AA, mR (by omega) (by omega), MP (by omega)]
          rfl
      by_cases hc:(!CP d[j]! d[j - 1]!)=true
      · rw [if_pos hc] at hst ⊢
        exact zZ hst
      · rw [if_neg hc] at hst ⊢
        cases k with
        | zero=>omega
        | succ k=>exact yQ hst (zVf b k (j+1) _ (by omega) (by omega) (by rw [xC]; omega) (by rw [xC]; omega))
    · rw [if_neg h]
      refine zZ ?_
      unfold Bj
      simp only
      rw [zM (by simp; omega)]
theorem zNX (b:Nat):∀ (k j:Nat) (d:Array Int),b - j≤k→(shiftUp CP b j d).size=d.size
 | k,j,d,hk=>by
  unfold shiftUp
  split
  ·split
   ·rfl
   ·cases k with
    | zero=>omega
    | succ k=>rw [zNX b k _ _ (by omega),xC]
  ·rfl
def qh (BB BO:Int):List Int × Int × Int→Option (vM (List Int × Int × Int) (((List Int) × Bool) ⊕ List Int)):=(fun (s1:List Int × Int × Int)=>bif decide (s1.2.2<5) then (bnd (zI (τ:=Int) (fun (s2:Int)=>bnd ((bif decide (s2<BO) then (bnd (AU s1.1 s2) fun x1=>bnd (AU s1.1 (wrap .i64 (s2 - 1))) fun x2=>bnd (zH x1 x2) fun r1=>some (!r1)) else (some false):Option Bool)) fun o4=>bif o4 then (some (.next (wrap .i64 (s2+1)))) else (some (.done s2))) s1.2.1) fun o3=>bif (o3==BO) then (some (.done (.inl (s1.1,true)))) else (bif decide ((wrap .i64 (BO - BB))<50) then (some (.done (.inl (s1.1,false)))) else (bnd (AU s1.1 (wrap .i64 (o3 - 1))) fun x3=>bnd (AU s1.1 (wrap .i64 (o3 - 1))) fun x4=>bnd (AU s1.1 o3) fun x5=>bnd (AU s1.1 o3) fun x6=>bnd (xJ s1.1 o3 x4) fun l1=>bnd (AU l1 (wrap .i64 (o3 - 1))) fun x7=>bnd (xJ l1 (wrap .i64 (o3 - 1)) x5) fun l2=>bnd ((bif decide ((wrap .i64 (o3 - BB))≥2) then (bnd (zI (τ:=List Int) (fun (s3:List Int × Int)=>bif decide (s3.2≥1) then (bnd (AU s3.1 s3.2) fun x8=>bnd (AU s3.1 (wrap .i64 (s3.2 - 1))) fun x9=>bnd (zH x8 x9) fun r2=>bif !r2 then (some (.done s3.1)) else (bnd (AU s3.1 (wrap .i64 (s3.2 - 1))) fun x10=>bnd (AU s3.1 s3.2) fun x11=>bnd (AU s3.1 s3.2) fun x12=>bnd (xJ s3.1 s3.2 x10) fun l3=>bnd (AU l3 (wrap .i64 (s3.2 - 1))) fun OJ=>bnd (xJ l3 (wrap .i64 (s3.2 - 1)) x11) fun l4=>some (.next (l4,wrap .i64 (s3.2 - 1))))) else (some (.done s3.1))) (l2,wrap .i64 (o3 - 1))) fun o6=>some o6) else (some l2):Option (List Int))) fun o5=>bif decide ((wrap .i64 (BO - o3))≥2) then (bnd (zI (τ:=List Int) (fun (s4:List Int × Int)=>bif decide (s4.2<BO) then (bnd (AU s4.1 s4.2) fun x14=>bnd (AU s4.1 (wrap .i64 (s4.2 - 1))) fun x15=>bnd (zH x14 x15) fun r3=>bif !r3 then (some (.done s4.1)) else (bnd (AU s4.1 (wrap .i64 (s4.2 - 1))) fun x16=>bnd (AU s4.1 s4.2) fun x17=>bnd (AU s4.1 s4.2) fun x18=>bnd (xJ s4.1 s4.2 x16) fun l5=>bnd (AU l5 (wrap .i64 (s4.2 - 1))) fun x19=>bnd (xJ l5 (wrap .i64 (s4.2 - 1)) x17) fun l6=>some (.next (l6,wrap .i64 (s4.2+1))))) else (some (.done s4.1))) (o5,wrap .i64 (o3+1))) fun o7=>some (.next (o7,o3,wrap .i64 (s1.2.2+1)))) else (some (.next (o5,o3,wrap .i64 (s1.2.2+1))))))) else (some (.done (.inr s1.1))))
theorem zOO (a b:Nat) (hab:a<b):∀ (s i:Nat) (d:Array Int),s≤5→a+1≤i→i≤b→b≤d.size→d.size≤100000→∃ o,zI (qh (a:Int) (b:Int)) (d.toList,(i:Int),((5 - s:Nat):Int))=some o∧(wN o fun o2=>some (o2,false))=some ((partialIns CP a b s i d).1.toList,(partialIns CP a b s i d).2)
 | 0,i,d,h5,h1,h2,hb,hs=>by
  refine ⟨.inr d.toList,zZ ?_,O⟩
  unfold qh
  simp only
  rw [zM (by simp)]
 | s+1,i,d,h5,h1,h2,hb,hs=>by
  have e1:=zVk hb hs _ i (Nat.le_refl _) (by omega)
  have e2:=zVC d b _ i (Nat.le_refl _) h2
  have eP:partialIns CP a b (s+1) i d=(if scanSorted CP d b i=b then (d,true) else if b - a<50 then (d,false) else
   partialIns CP a b s (scanSorted CP d b i) (if b - scanSorted CP d b i≥2 then shiftUp CP b (scanSorted CP d b i+1) (if scanSorted CP d b i - a≥2 then shiftDown CP (scanSorted CP d b i - 1) (swp d (scanSorted CP d b i) (scanSorted CP d b i - 1)) else swp d (scanSorted CP d b i) (scanSorted CP d b i - 1)) else (if scanSorted CP d b i - a≥2 then shiftDown CP (scanSorted CP d b i - 1) (swp d (scanSorted CP d b i) (scanSorted CP d b i - 1)) else swp d (scanSorted CP d b i) (scanSorted CP d b i - 1)))):=rfl
  rw [eP]
  clear eP
  revert e1 e2
  generalize scanSorted CP d b i=q
  intro e1 e2
  unfold Jc at e1
  have w:wrap .i64 ((b:Int) - (a:Int))=((b - a:Nat):Int):=by rw [zC (by omega) (by omega)]; omega
  by_cases h3:q=b
  ·refine ⟨.inl (d.toList,true),zZ ?_,by rw [if_pos h3]; rfl⟩
   unfold qh
   simp only
   rw [zS (by simp; omega),e1,AA,zS (by simp; omega)]
  ·rw [if_neg h3]
   by_cases h4:b - a<50
   ·refine ⟨.inl (d.toList,false),zZ ?_,by rw [if_pos h4]; rfl⟩
    unfold qh
    simp only
    rw [zS (by simp; omega),e1,AA,zM (by simp; omega),w,zS (by simp; omega)]
   ·rw [if_neg h4]
    have hz:(swp d q (q - 1)).size=d.size:=xC _ _ _
    have hD:∃ f,f=(if q - a≥2 then shiftDown CP (q - 1) (swp d q (q - 1)) else swp d q (q - 1))∧f.size=d.size:=by
     refine ⟨_,O,?_⟩
     split
     ·rw [zOK,hz]
     ·exact hz
    obtain ⟨f,hf,hfz⟩:=hD
    have hG:∃ g,g=(if b - q≥2 then shiftUp CP b (q+1) f else f)∧g.size=d.size:=by
     refine ⟨_,O,?_⟩
     split
     ·rw [zNX b _ _ _ (Nat.le_refl _),hfz]
     ·exact hfz
    obtain ⟨g,hg,hgz⟩:=hG
    rw [←hf,←hg]
    obtain ⟨o,o1,o2⟩:=zOO a b hab s q g (by omega) (by omega) (by omega) (by omega) (by omega)
    refine ⟨o,yQ ?_ o1,o2⟩
    unfold qh
    simp only
    rw [zS (by simp; omega),e1,AA,zM (by simp; omega),w,zM (by simp; omega),zC (x:=(q:Int) - 1) (by omega) (by omega),show ((q:Int) - 1)=((q - 1:Nat):Int) by omega,yP (show q - 1<d.size by omega),AA,AA,yP (show q<d.size by omega),AA,AA,mR (by omega) (by omega),zC (x:=(q:Int) - (a:Int)) (by omega) (by omega),zC (x:=(b:Int) - (q:Int)) (by omega) (by omega),MP (by omega)]
    have e3:(bif decide ((q:Int) - (a:Int)≥2) then (bnd (zI (τ:=List Int) qg ((swp d q (q - 1)).toList,((q - 1:Nat):Int))) fun o6=>some o6) else (some (swp d q (q - 1)).toList):Option (List Int))=some f.toList:=by
     by_cases h6:q - a≥2
     ·rw [zS (by simp; omega),zVl _ _ (by omega) (by omega),hf,if_pos h6]
      rfl
     ·rw [zM (by simp; omega),hf,if_neg h6]
    unfold qg at e3
    rw [e3,AA]
    have e4:wrap .i64 (((5 - (s+1):Nat):Int)+1)=((5 - s:Nat):Int):=by rw [zC (by omega) (by omega)]; omega
    rw [e4]
    by_cases h7:b - q≥2
    ·have e5:=zVf b _ (q+1) f (Nat.le_refl _) (by omega) (by omega) (by omega)
     unfold Bj at e5
     rw [zS (by simp; omega),e5,AA,hg,if_pos h7]
    ·rw [zM (by simp; omega),hg,if_neg h7]
theorem zMV {d:Array Int} {a b:Nat} (hab:a<b) (hb:b≤d.size) (hs:d.size≤100000):yE d.toList (a:Int) (b:Int)=some ((Go.Sort.partialInsertionSort CP d a b).1.toList,(Go.Sort.partialInsertionSort CP d a b).2):=by
 unfold yE
 rw [MP (by omega)]
 obtain ⟨o,h1,h2⟩:=zOO a b hab 5 (a+1) d (by omega) (by omega) (by omega) hb hs
 unfold qh at h1
 show bnd (zI _ (d.toList,((a+1:Nat):Int),((5 - 5:Nat):Int))) _=_
 rw [h1]
 exact h2
theorem Uc {d:Array Int} {a b s:Nat} (ha:a<d.size) (hb:b<d.size) (hs:s≤1000):xY d.toList (a:Int) (b:Int) (s:Int)=some (((order2 CP d a b s).2.2:Int),((order2 CP d a b s).1:Int),((order2 CP d a b s).2.1:Int)):=by
 unfold xY order2
 rw [yP hb,AA,yP ha,AA,mG,AA,MP (by omega)]
 cases CP d[b]! d[a]! <;> rfl
theorem Ud {d:Array Int} {a b s:Nat}:((order2 CP d a b s).1=a∨(order2 CP d a b s).1=b)∧((order2 CP d a b s).2.1=a∨(order2 CP d a b s).2.1=b)∧(order2 CP d a b s).2.2≤s+1:=by
 unfold order2
 split
 ·exact ⟨.inr O, .inl O,Nat.le_refl _⟩
 ·exact ⟨.inl O, .inr O,Nat.le_succ _⟩
theorem Ue {d:Array Int} {a b c s:Nat} (ha:a<d.size) (hb:b<d.size) (hc:c<d.size) (hs:s≤900):xH d.toList (a:Int) (b:Int) (c:Int) (s:Int)=some (((median CP d a b c s).2:Int),((median CP d a b c s).1:Int))∧((median CP d a b c s).1=a∨(median CP d a b c s).1=b∨(median CP d a b c s).1=c)∧(median CP d a b c s).2≤s+3:=by
 have h1:=Ud (d:=d) (a:=a) (b:=b) (s:=s)
 have e1:=Uc (d:=d) (a:=a) (b:=b) (s:=s) ha hb (by omega)
 unfold xH median
 rw [e1,AA]
 simp only
 revert h1
 generalize order2 CP d a b s=r1
 intro h1
 have h2:=Ud (d:=d) (a:=r1.2.1) (b:=c) (s:=r1.2.2)
 have e2:=Uc (d:=d) (a:=r1.2.1) (b:=c) (s:=r1.2.2) (by omega) hc (by omega)
 rw [e2,AA]
 simp only
 revert h2
 generalize order2 CP d r1.2.1 c r1.2.2=r2
 intro h2
 have h3:=Ud (d:=d) (a:=r1.1) (b:=r2.1) (s:=r2.2.2)
 have e3:=Uc (d:=d) (a:=r1.1) (b:=r2.1) (s:=r2.2.2) (by omega) (by omega) (by omega)
 rw [e3,AA]
 exact ⟨O,by omega,by omega⟩
theorem Uf {d:Array Int} {a s:Nat} (h1:1≤a) (ha:a+1<d.size) (hd:d.size≤100000) (hs:s≤900):yF d.toList (a:Int) (s:Int)=some (((medianAdjacent CP d a s).2:Int),((medianAdjacent CP d a s).1:Int))∧((medianAdjacent CP d a s).1≤a+1)∧(medianAdjacent CP d a s).2≤s+3:=by
 unfold yF medianAdjacent
 obtain ⟨e1,e2,e3⟩:=Ue (d:=d) (a:=a - 1) (b:=a) (c:=a+1) (s:=s) (by omega) (by omega) ha hs
 rw [MP (by omega),zC (by omega) (by omega),show ((a:Int) - 1)=((a - 1:Nat):Int) by omega,e1,AA]
 exact ⟨O,by omega,e3⟩
def qi:Hint→Int
 | .unknown=>0
 | .increasing=>1
 | .decreasing=>2
theorem zRN {d:Array Int} {a b:Nat} (hab:a+12<b) (hb:b≤d.size) (hs:d.size≤100000):xX d.toList (a:Int) (b:Int)=some (((choosePivot CP d a b).1:Int),qi (choosePivot CP d a b).2):=by
 unfold xX
 have w:wrap .i64 ((b:Int) - (a:Int))=((b - a:Nat):Int):=by rw [zC (by omega) (by omega)]; omega
 have wd:wrap .i64 (((b - a:Nat):Int).tdiv 4)=(((b - a) / 4:Nat):Int):=by
  have:((b - a:Nat):Int).tdiv ((4:Nat):Int)=(((b - a) / 4:Nat):Int):=dG _ _
  rw [show ((b - a:Nat):Int).tdiv 4=(((b - a) / 4:Nat):Int) from this,zC (by omega) (by omega)]
 have wi:∀ q:Nat,q≤3→wrap .i64 ((a:Int)+wrap .i64 ((((b - a) / 4:Nat):Int)*(q:Int)))=((a+(b - a) / 4*q:Nat):Int):=fun q hq=>by
  have h4:(b - a) / 4*q≤(b - a) / 4*3:=Nat.mul_le_mul (Nat.le_refl _) hq
  have e:(((b - a) / 4:Nat):Int)*(q:Int)=(((b - a) / 4*q:Nat):Int):=by simp
  rw [e,zC (x:=(((b - a) / 4*q:Nat):Int)) (by omega) (by omega),zC (by omega) (by omega)]
  omega
 have w1:=wi 1 (by omega)
 have w2:=wi 2 (by omega)
 have w3:=wi 3 (by omega)
 rw [w,wd,show wrap .i64 ((a:Int)+wrap .i64 ((((b - a) / 4:Nat):Int)*1))=_ from w1,show wrap .i64 ((a:Int)+wrap .i64 ((((b - a) / 4:Nat):Int)*2))=_ from w2,show wrap .i64 ((a:Int)+wrap .i64 ((((b - a) / 4:Nat):Int)*3))=_ from w3,zS (by simp; omega)]
 have fin:∀ r:Nat × Nat,(bif ((r.2:Int)==0) then (some ((r.1:Int),(1:Int))) else (bif ((r.2:Int)==12) then (some ((r.1:Int),2)) else (some ((r.1:Int),0))))=some ((r.1:Int),qi (if r.2=0 then Hint.increasing else if r.2=12 then Hint.decreasing else Hint.unknown)):=fun r=>by
  by_cases h0:r.2=0
  ·rw [zS (by simp [h0]),if_pos h0]; rfl
  ·rw [zM (by simp; omega),if_neg h0]
   by_cases h12:r.2=12
   ·rw [zS (by simp [h12]),if_pos h12]; rfl
   ·rw [zM (by simp; omega),if_neg h12]; rfl
 have hq:(b - a) / 4*1≤(b - a) / 4*3:=Nat.mul_le_mul (Nat.le_refl _) (by omega)
 have hq2:(b - a) / 4*2≤(b - a) / 4*3:=Nat.mul_le_mul (Nat.le_refl _) (by omega)
 have hq3:(b - a) / 4*3≤b - a - 3:=by omega
 have hq4:1≤(b - a) / 4*1:=by omega
 unfold choosePivot
 simp only
 rw [if_pos (show b - a≥8 by omega)]
 by_cases h50:b - a≥50
 ·rw [zS (by simp; omega),if_pos h50]
  obtain ⟨a1,a2,a3⟩:=Uf (d:=d) (a:=a+(b - a) / 4*1) (s:=0) (by omega) (by omega) hs (by omega)
  rw [show yF d.toList ((a+(b - a) / 4*1:Nat):Int) 0=_ from a1,AA]
  simp only
  revert a2 a3
  generalize medianAdjacent CP d (a+(b - a) / 4*1) 0=ri
  intro a2 a3
  obtain ⟨b1,b2,b3⟩:=Uf (d:=d) (a:=a+(b - a) / 4*2) (s:=ri.2) (by omega) (by omega) hs (by omega)
  rw [b1,AA]
  simp only
  revert b2 b3
  generalize medianAdjacent CP d (a+(b - a) / 4*2) ri.2=rj
  intro b2 b3
  obtain ⟨c1,c2,c3⟩:=Uf (d:=d) (a:=a+(b - a) / 4*3) (s:=rj.2) (by omega) (by omega) hs (by omega)
  rw [c1,AA]
  simp only
  revert c2 c3
  generalize medianAdjacent CP d (a+(b - a) / 4*3) rj.2=rk
  intro c2 c3
  obtain ⟨d1,_,_⟩:=Ue (d:=d) (a:=ri.1) (b:=rj.1) (c:=rk.1) (s:=rk.2) (by omega) (by omega) (by omega) (by omega)
  rw [d1,AA,AA]
  exact fin _
 ·rw [zM (by simp; omega),if_neg h50]
  obtain ⟨d1,_,_⟩:=Ue (d:=d) (a:=a+(b - a) / 4*1) (b:=a+(b - a) / 4*2) (c:=a+(b - a) / 4*3) (s:=0) (by omega) (by omega) (by omega) (by omega)
  rw [show xH d.toList ((a+(b - a) / 4*1:Nat):Int) ((a+(b - a) / 4*2:Nat):Int) ((a+(b - a) / 4*3:Nat):Int) 0=_ from d1,AA,AA]
  exact fin _
open Go.Sort (swp bitsLen xorNext breakStep breakPatterns)
theorem zRz {a b:Nat} (ha:a<18446744073709551616) (hb:b<18446744073709551616):lI .u64 (a:Int) (b:Int)=((a ^^^ b:Nat):Int):=by
 unfold lI
 rw [BitVec.toNat_xor,wH (by exact ha),wH (by exact hb),lF (Nat.xor_lt_two_pow (n:=64) ha hb)]
theorem zPq (n:Nat):wrap .u64 (n:Int)=((n % 18446744073709551616:Nat):Int):=by
 show (n:Int) % 2 ^ 64=_
 omega
theorem Ug {a s:Nat} (hs:s≤64):yM .u64 (a:Int) (s:Int)=((a*2 ^ s % 18446744073709551616:Nat):Int):=by
 unfold yM
 have:min (s:Int).toNat (IntKind.bits .u64)=s:=by show min (s:Int).toNat 64=s; omega
 rw [this]
 have e:((a:Int)*2 ^ s)=((a*2 ^ s:Nat):Int):=by simp
 rw [e,zPq]
theorem zUt (u:UInt64):vP (u.toNat:Int)=some (((xorNext u).toNat:Int),((xorNext u).toNat:Int)):=by
 have hb:∀ v:UInt64,v.toNat<18446744073709551616:=fun v=>v.toNat_lt
 have sh1:∀ v:UInt64,yM .u64 (v.toNat:Int) 13=((v<<<13).toNat:Int):=fun v=>by
  rw [show yM .u64 (v.toNat:Int) 13=_ from Ug (a:=v.toNat) (s:=13) (by omega),UInt64.toNat_shiftLeft,Nat.shiftLeft_eq]
  rfl
 have sh3:∀ v:UInt64,yM .u64 (v.toNat:Int) 17=((v<<<17).toNat:Int):=fun v=>by
  rw [show yM .u64 (v.toNat:Int) 17=_ from Ug (a:=v.toNat) (s:=17) (by omega),UInt64.toNat_shiftLeft,Nat.shiftLeft_eq]
  rfl
 have sh2:∀ v:UInt64,xP .u64 (v.toNat:Int) 7=((v >>> 7).toNat:Int):=fun v=>by
  rw [show xP .u64 (v.toNat:Int) 7=_ from jC (k:=.u64) (a:=v.toNat) (s:=7) (by show 7≤64; omega),UInt64.toNat_shiftRight,Nat.shiftRight_eq_div_pow]
  rfl
 have xr:∀ v w:UInt64,lI .u64 (v.toNat:Int) (w.toNat:Int)=((v ^^^ w).toNat:Int):=fun v w=>by
  rw [zRz (hb v) (hb w),UInt64.toNat_xor]
 unfold vP xorNext
 rw [sh1,xr,sh2,xr,sh3,xr]
theorem zQy:∀ n:Fin 1001,pP ((n.val:Nat):Int)=some ((bitsLen n.val:Nat):Int):=by
 decide+kernel
theorem zTf {a b:Nat} (ha:a<18446744073709551616) (hb:b<18446744073709551616):vL .u64 (a:Int) (b:Int)=((a&&&b:Nat):Int):=by
 unfold vL
 rw [BitVec.toNat_and,wH (by exact ha),wH (by exact hb),lF (Nat.and_lt_two_pow (n:=64) a hb)]
theorem zSa {n:Nat} (h0:0<n) (h:n≤1000):tG (n:Int)=some ((1<<<bitsLen n:Nat):Int)∧1<<<bitsLen n≤2*n∧1≤1<<<bitsLen n:=by
 have h1:=Go.Sort.two_pow_bitsLen_le h0
 have h2:0<2 ^ bitsLen n:=Nat.two_pow_pos _
 have h3:bitsLen n≤64:=by
  rw [Go.Sort.bitsLen_le_iff]
  exact Nat.lt_of_le_of_lt h (by decide)
 refine ⟨?_,by rw [Nat.one_shiftLeft]; exact h1,by rw [Nat.one_shiftLeft]; exact h2⟩
 unfold tG
 rw [lF (by omega),zQy ⟨n,by omega⟩,AA]
 unfold PG
 rw [if_neg (by simp),AA]
 have e:yM .u64 ((1:Nat):Int) ((bitsLen n:Nat):Int)=_:=Ug (a:=1) h3
 rw [show yM .u64 1 ((bitsLen n:Nat):Int)=_ from e,Nat.one_mul,Nat.one_shiftLeft,Nat.mod_eq_of_lt (by omega)]
def qj (BB BO r1:Int):List Int × Int × Int→Option (vM (List Int × Int × Int) (List Int × Int)):=(fun (s1:List Int × Int × Int)=>bif decide (s1.2.1≤(wrap .i64 ((wrap .i64 (BB+(wrap .i64 ((wrap .i64 ((wrap .i64 (BO - BB)).tdiv 4))*2))))+1))) then (bnd (vP s1.2.2) fun r2=>bnd ((bif decide ((wrap .i64 (vL .u64 r2.2 (wrap .u64 (r1 - 1))))≥(wrap .i64 (BO - BB))) then (some (wrap .i64 ((wrap .i64 (vL .u64 r2.2 (wrap .u64 (r1 - 1)))) - (wrap .i64 (BO - BB))))) else (some (wrap .i64 (vL .u64 r2.2 (wrap .u64 (r1 - 1))))):Option Int)) fun o2=>bnd (AU s1.1 (wrap .i64 (BB+o2))) fun x1=>bnd (AU s1.1 (wrap .i64 (BB+o2))) fun x2=>bnd (AU s1.1 s1.2.1) fun x3=>bnd (AU s1.1 s1.2.1) fun x4=>bnd (xJ s1.1 s1.2.1 x2) fun l1=>bnd (AU l1 (wrap .i64 (BB+o2))) fun x5=>bnd (xJ l1 (wrap .i64 (BB+o2)) x3) fun l2=>some (.next (l2,wrap .i64 (s1.2.1+1),r2.1))) else (some (.done (s1.1,s1.2.2))))
theorem Uh {d:Array Int} {a b idx:Nat} {u:UInt64} (hab:a<b) (hb:b≤d.size) (hs:d.size≤1000) (hi:idx≤a+(b - a) / 4*2+1) (hi2:idx<b):qj (a:Int) (b:Int) ((1<<<bitsLen (b - a):Nat):Int) (d.toList,(idx:Int),(u.toNat:Int))=some (.next ((breakStep a (b - a) (1<<<bitsLen (b - a)) (u,d) idx).2.toList,((idx+1:Nat):Int),((xorNext u).toNat:Int))):=by
 have w:wrap .i64 ((b:Int) - (a:Int))=((b - a:Nat):Int):=by rw [zC (by omega) (by omega)]; omega
 have wd:wrap .i64 (((b - a:Nat):Int).tdiv 4)=(((b - a) / 4:Nat):Int):=by
  have:((b - a:Nat):Int).tdiv ((4:Nat):Int)=(((b - a) / 4:Nat):Int):=dG _ _
  rw [show ((b - a:Nat):Int).tdiv 4=(((b - a) / 4:Nat):Int) from this,zC (by omega) (by omega)]
 obtain ⟨_,p1,p2⟩:=zSa (n:=b - a) (by omega) (by omega)
 have hm:(xorNext u).toNat&&&(1<<<bitsLen (b - a) - 1)≤1<<<bitsLen (b - a) - 1:=Nat.and_le_right
 unfold qj breakStep
 simp only
 revert p1 p2 hm
 generalize 1<<<bitsLen (b - a)=mo
 intro p1 p2 hm
 rw [w,wd,zC (x:=(((b - a) / 4:Nat):Int)*2) (by omega) (by omega),zC (x:=(a:Int)+(((b - a) / 4:Nat):Int)*2) (by omega) (by omega),zC (x:=(a:Int)+(((b - a) / 4:Nat):Int)*2+1) (by omega) (by omega),zS (by simp; omega),zUt,AA]
 simp only
 have w2:wrap .u64 ((mo:Int) - 1)=((mo - 1:Nat):Int):=by rw [Ba (by omega) (by omega)]; omega
 rw [w2,zTf ((xorNext u).toNat_lt) (by omega),wr (by omega)]
 revert hm
 generalize (xorNext u).toNat&&&(mo - 1)=q
 intro hm
 have hq:(bif decide ((q:Int)≥((b - a:Nat):Int)) then (some (wrap .i64 ((q:Int) - ((b - a:Nat):Int)))) else (some (q:Int)):Option Int)=some (((if q≥b - a then q - (b - a) else q:Nat)):Int):=by
  by_cases h:q≥b - a
  ·rw [zS (by simp; omega),if_pos h,zC (by omega) (by omega)]
   congr 1
   omega
  ·rw [zM (by simp; omega),if_neg h]
 rw [hq,AA]
 have hr:(if q≥b - a then q - (b - a) else q)<b - a:=by split <;> omega
 revert hr
 generalize (if q≥b - a then q - (b - a) else q)=o
 intro hr
 have w3:wrap .i64 ((a:Int)+(o:Int))=((a+o:Nat):Int):=by rw [zC (by omega) (by omega)]; omega
 rw [w3,yP (show a+o<d.size by omega),AA,AA,yP (show idx<d.size by omega),AA,AA,mR (by omega) (by omega),MP (by omega)]
theorem Ui {d:Array Int} (a l m:Nat) (u:UInt64) (idx:Nat):(breakStep a l m (u,d) idx).2.size=d.size∧(breakStep a l m (u,d) idx).1=xorNext u:=by
 unfold breakStep
 exact ⟨xC _ _ _,O⟩
theorem zSm {d:Array Int} {a b:Nat} (hab:a+12<b) (hb:b≤d.size) (hs:d.size≤1000):yW d.toList (a:Int) (b:Int)=some (breakPatterns d a b).toList:=by
 have w:wrap .i64 ((b:Int) - (a:Int))=((b - a:Nat):Int):=by rw [zC (by omega) (by omega)]; omega
 have wd:wrap .i64 (((b - a:Nat):Int).tdiv 4)=(((b - a) / 4:Nat):Int):=by
  have:((b - a:Nat):Int).tdiv ((4:Nat):Int)=(((b - a) / 4:Nat):Int):=dG _ _
  rw [show ((b - a:Nat):Int).tdiv 4=(((b - a) / 4:Nat):Int) from this,zC (by omega) (by omega)]
 obtain ⟨p0,_,_⟩:=zSa (n:=b - a) (by omega) (by omega)
 unfold yW breakPatterns
 simp only
 rw [if_pos (show b - a≥8 by omega)]
 have hl:wrap .u64 ((b - a:Nat):Int)=((UInt64.ofNat (b - a)).toNat:Int):=by
  rw [lF (by omega),UInt64.toNat_ofNat_of_lt' (by show b - a<18446744073709551616; omega)]
 have hlp:∀ (f:Array Int × UInt64),True:=fun _=>trivial
 generalize hu:UInt64.ofNat (b - a)=u0 at hl
 generalize hi0:a+(b - a) / 4*2 - 1=i0
 generalize hd1:breakStep a (b - a) (1<<<bitsLen (b - a)) (u0,d) i0=s1
 have z1:=Ui (d:=d) a (b - a) (1<<<bitsLen (b - a)) u0 i0
 rw [hd1] at z1
 obtain ⟨u1,d1⟩:=s1
 generalize hd2:breakStep a (b - a) (1<<<bitsLen (b - a)) (u1,d1) (i0+1)=s2
 have z2:=Ui (d:=d1) a (b - a) (1<<<bitsLen (b - a)) u1 (i0+1)
 rw [hd2] at z2
 obtain ⟨u2,d2⟩:=s2
 generalize hd3:breakStep a (b - a) (1<<<bitsLen (b - a)) (u2,d2) (i0+2)=s3
 have z3:=Ui (d:=d2) a (b - a) (1<<<bitsLen (b - a)) u2 (i0+2)
 rw [hd3] at z3
 obtain ⟨u3,d3⟩:=s3
 simp only at z1 z2 z3
 have q1:=Uh (d:=d) (a:=a) (b:=b) (idx:=i0) (u:=u0) (by omega) hb hs (by omega) (by omega)
 rw [hd1] at q1
 have q2:=Uh (d:=d1) (a:=a) (b:=b) (idx:=i0+1) (u:=u1) (by omega) (by omega) (by omega) (by omega) (by omega)
 rw [hd2] at q2
 have q3:=Uh (d:=d2) (a:=a) (b:=b) (idx:=i0+2) (u:=u2) (by omega) (by omega) (by omega) (by omega) (by omega)
 rw [hd3] at q3
 have q4:qj (a:Int) (b:Int) ((1<<<bitsLen (b - a):Nat):Int) (d3.toList,((i0+3:Nat):Int),(u3.toNat:Int))=some (.done (d3.toList,(u3.toNat:Int))):=by
  unfold qj
  simp only
  rw [w,wd,zC (x:=(((b - a) / 4:Nat):Int)*2) (by omega) (by omega),zC (x:=(a:Int)+(((b - a) / 4:Nat):Int)*2) (by omega) (by omega),zC (x:=(a:Int)+(((b - a) / 4:Nat):Int)*2+1) (by omega) (by omega),zM (by simp; omega)]
 have hloop:zI (qj (a:Int) (b:Int) ((1<<<bitsLen (b - a):Nat):Int)) (d.toList,(i0:Int),(u0.toNat:Int))=some (d3.toList,(u3.toNat:Int)):=by
  refine yQ q1 ?_
  simp only
  rw [←z1.2]
  refine yQ q2 ?_
  rw [←z2.2]
  refine yQ q3 ?_
  rw [←z3.2]
  exact zZ q4
 unfold qj at hloop
 rw [w,wd] at hloop
 rw [w,wd,zS (by simp; omega),p0,AA,zC (x:=(((b - a) / 4:Nat):Int)*2) (by omega) (by omega),zC (x:=(a:Int)+(((b - a) / 4:Nat):Int)*2) (by omega) (by omega),zC (x:=(a:Int)+(((b - a) / 4:Nat):Int)*2 - 1) (by omega) (by omega),hl,show ((a:Int)+(((b - a) / 4:Nat):Int)*2 - 1)=(i0:Int) by omega]
 rw [zC (x:=(((b - a) / 4:Nat):Int)*2) (by omega) (by omega),zC (x:=(a:Int)+(((b - a) / 4:Nat):Int)*2) (by omega) (by omega)] at hloop
 rw [hloop]
 rfl
open Go.Sort (swp bitsLen Hint SWO PermIn SortedIn Below)
def Uj (a b:Nat) (d R:Array Int):Prop:=PermIn a b d R∧SortedIn CP a b R
def zOx (K:Nat) (rec:List Int→Int→Int→Int→Option (List Int)):Prop:=∀ (e:Array Int) (a b:Nat) (limit:Int),b - a<K→a≤b→b≤e.size→e.size≤1000→Below CP a b e→∃ R,rec e.toList (a:Int) (b:Int) limit=some R.toList∧Uj a b e R
def aj (rec:List Int→Int→Int→Int→Option (List Int)):List Int × Int × Int × Int × Bool × Bool→Option (vM (List Int × Int × Int × Int × Bool × Bool) ((List Int) ⊕ Unit)):=(fun (s1:List Int × Int × Int × Int × Bool × Bool)=>bif decide ((wrap .i64 (s1.2.2.1 - s1.2.1))≤12) then (bnd (xM s1.1 s1.2.1 s1.2.2.1) fun r1=>bnd (yV s1.1.length r1) fun l1=>some (.done (.inl r1))) else (bif (s1.2.2.2.1==0) then (bnd (wO s1.1 s1.2.1 s1.2.2.1) fun r2=>bnd (yV s1.1.length r2) fun l2=>some (.done (.inl r2))) else (bnd ((bif !s1.2.2.2.2.1 then (bnd (yW s1.1 s1.2.1 s1.2.2.1) fun r3=>bnd (yV s1.1.length r3) fun l3=>some (r3,wrap .i64 (s1.2.2.2.1 - 1))) else (some (s1.1,s1.2.2.2.1)):Option (List Int × Int))) fun o3=>bnd (xX o3.1 s1.2.1 s1.2.2.1) fun r4=>bnd ((bif (r4.2==2) then (bnd (yY o3.1 s1.2.1 s1.2.2.1) fun r5=>bnd (yV o3.1.length r5) fun l4=>some (r5,wrap .i64 ((wrap .i64 (s1.2.2.1 - 1)) - (wrap .i64 (r4.1 - s1.2.1))),1)) else (some (o3.1,r4.1,r4.2)):Option (List Int × Int × Int))) fun o4=>bnd ((bnd ((bif s1.2.2.2.2.1 then (bif s1.2.2.2.2.2 then (some (o4.2.2==1)) else (some false)) else (some false):Option Bool)) fun o7=>bif o7 then (bnd (yE o4.1 s1.2.1 s1.2.2.1) fun r6=>bnd (yV o4.1.length r6.1) fun l5=>bif r6.2 then (some (.inl r6.1)) else (some (.inr r6.1))) else (some (.inr o4.1)):Option ((List Int) ⊕ List Int))) fun o5=>Qr (fun r_=>(.done (.inl r_))) o5 fun o6=>bnd ((bif decide (s1.2.1>0) then (bnd (AU o6 (wrap .i64 (s1.2.1 - 1))) fun x1=>bnd (AU o6 o4.2.1) fun x2=>bnd (zH x1 x2) fun r7=>some (!r7)) else (some false):Option Bool)) fun o8=>bif o8 then (bnd (yS o6 s1.2.1 s1.2.2.1 o4.2.1) fun r8=>bnd (yV o6.length r8.1) fun l6=>some (.next (r8.1,r8.2,s1.2.2.1,o3.2,s1.2.2.2.2.1,s1.2.2.2.2.2))) else (bnd (xL o6 s1.2.1 s1.2.2.1 o4.2.1) fun r9=>bnd (yV o6.length r9.1) fun l7=>bif decide ((wrap .i64 (r9.2.1 - s1.2.1))<(wrap .i64 (s1.2.2.1 - r9.2.1))) then (bnd (rec r9.1 s1.2.1 r9.2.1 o3.2) fun r10=>bnd (yV r9.1.length r10) fun l8=>some (.next (r10,wrap .i64 (r9.2.1+1),s1.2.2.1,o3.2,decide ((wrap .i64 (r9.2.1 - s1.2.1))≥(wrap .i64 ((wrap .i64 (s1.2.2.1 - s1.2.1)).tdiv 8))),r9.2.2))) else (bnd (rec r9.1 (wrap .i64 (r9.2.1+1)) s1.2.2.1 o3.2) fun r11=>bnd (yV r9.1.length r11) fun l9=>some (.next (r11,s1.2.1,r9.2.1,o3.2,decide ((wrap .i64 (s1.2.2.1 - r9.2.1))≥(wrap .i64 ((wrap .i64 (s1.2.2.1 - s1.2.1)).tdiv 8))),r9.2.2)))))))
theorem ql:SWO CP:=Go.Sort.swo_ltInt
theorem Jd {K:Nat} {rec:List Int→Int→Int→Int→Option (List Int)} (hrec:zOx K rec):∀ (k a b:Nat) (d:Array Int) (limit:Int) (wb wp:Bool),b - a≤k→b - a≤K→a≤b→b≤d.size→d.size≤1000→Below CP a b d→∃ R,zI (aj rec) (d.toList,(a:Int),(b:Int),limit,wb,wp)=some (.inl R.toList)∧Uj a b d R
  | k,a,b,d,limit,wb,wp,hk,hK,hab,hb,hs,hB=>by
    have w:wrap .i64 ((b:Int) - (a:Int))=((b - a:Nat):Int):=by rw [zC (by omega) (by omega)]; omega
    by_cases h12:b - a≤12
    · have hi := zJw (d := d) (a := a) (b := b) hb hab (by omega)
      have hp:=Go.Sort.insertionSort_holds ql d a b hab hb
      refine ⟨_,zZ ?_,hp⟩
      unfold aj
      simp only
      rw [w,zS (by simp; omega),hi,AA,kV (by simp; exact hp.1.1),AA]
    · by_cases hl0 : limit = 0
      · have hi := zUs (d := d) (a := a) (b := b) (by omega) hb (by omega)
        have hp:=Go.Sort.heapSort_holds ql d a b hab hb
        refine ⟨_,zZ ?_,hp⟩
        unfold aj
        simp only
        rw [w,zM (by simp; omega),zS (by simp [hl0]),hi,AA,kV (by simp; exact hp.1.1),AA]
      · cases k with
        | zero=>omega
        | succ k=>
          have s1:∃ (D1:Array Int) (L1:Int),(bif !wb then (bnd (yW d.toList (a:Int) (b:Int)) fun r3=>bnd (yV d.toList.length r3) fun l3=>some (r3,wrap .i64 (limit - 1))) else (some (d.toList,limit)):Option (List Int × Int))=some (D1.toList,L1)∧PermIn a b d D1:=by
            cases wb with
            | false=>
              have hp:=Go.Sort.breakPatterns_holds d a b hab hb
              refine ⟨_,wrap .i64 (limit - 1),?_,hp⟩
              rw [zS (by rfl),zSm (by omega) hb hs,AA,kV (by simp; exact hp.1),AA]
            | true=>exact ⟨d,limit,O,Go.Sort.permIn_refl _ _ _⟩
          obtain ⟨D1,L1,e1,p1⟩:=s1
          have z1:=p1.1
          have e2:=zRN (d:=D1) (a:=a) (b:=b) (by omega) (by omega) (by omega)
          have hc:=Go.Sort.choosePivot_holds CP D1 a b (by omega)
          have s3:∃ (D2:Array Int) (pv:Nat) (h:Int),(bif (qi (Go.Sort.choosePivot CP D1 a b).2==2) then (bnd (yY D1.toList (a:Int) (b:Int)) fun r5=>bnd (yV D1.toList.length r5) fun l4=>some (r5,wrap .i64 ((wrap .i64 ((b:Int) - 1)) - (wrap .i64 (((Go.Sort.choosePivot CP D1 a b).1:Int) - (a:Int)))),1)) else (some (D1.toList,((Go.Sort.choosePivot CP D1 a b).1:Int),qi (Go.Sort.choosePivot CP D1 a b).2)):Option (List Int × Int × Int))=some (D2.toList,(pv:Int),h)∧a≤pv∧pv<b∧PermIn a b D1 D2:=by
            revert hc
            generalize Go.Sort.choosePivot CP D1 a b=c
            intro hc
            by_cases h2:(qi c.2==2)=true
            · have hp := Go.Sort.reverseRange_holds D1 a b hab (by omega)
              refine ⟨_,(b - 1) - (c.1 - a),1,?_,by omega,by omega,hp⟩
              rw [zS h2,zNd (by omega) (by omega) (by omega),AA,kV (by simp; exact hp.1),AA,zC (x:=(b:Int) - 1) (by omega) (by omega),zC (x:=(c.1:Int) - (a:Int)) (by omega) (by omega),zC (by omega) (by omega)]
              congr 3
              omega
            · exact ⟨D1,c.1,qi c.2,by rw [zM (by simpa using h2)],hc.1,hc.2,Go.Sort.permIn_refl _ _ _⟩
          obtain ⟨D2,pv,h,e3,v1,v2,p2⟩:=s3
          have z2:=p2.1
          have B2:Below CP a b D2:=(hB.perm hb p1).perm (by omega) p2
          have s4:∃ o:(List Int) ⊕ List Int,(bnd ((bif wb then (bif wp then (some (h==1)) else (some false)) else (some false):Option Bool)) fun o7=>bif o7 then (bnd (yE D2.toList (a:Int) (b:Int)) fun r6=>bnd (yV D2.toList.length r6.1) fun l5=>bif r6.2 then (some (.inl r6.1)) else (some (.inr r6.1))) else (some (.inr D2.toList)):Option ((List Int) ⊕ List Int))=some o∧((∃ R,o= .inl R.toList∧Uj a b D2 R)∨∃ D3,o= .inr D3.toList∧PermIn a b D2 D3):=by
            have hg:∃ g:Bool,(bif wb then (bif wp then (some (h==1)) else (some false)) else (some false):Option Bool)=some g:=by
              cases wb <;> cases wp <;> exact ⟨_,O⟩
            obtain ⟨g,hg⟩:=hg
            rw [hg,AA]
            cases g with
            | false=>exact ⟨_,O, .inr ⟨D2,O,Go.Sort.permIn_refl _ _ _⟩⟩
            | true=>
              have hp:=Go.Sort.partialInsertionSort_holds ql D2 a b (by omega) (by omega) B2
              rw [cond_true,zMV (by omega) (by omega) (by omega),AA,kV (by simp; exact hp.1.1),AA]
              cases hr:(Go.Sort.partialInsertionSort CP D2 a b).2 with
              | false=>exact ⟨_,by rw [cond_false], .inr ⟨_,O,hp.1⟩⟩
              | true=>exact ⟨_,by rw [cond_true], .inl ⟨_,O,hp.1,hp.2 hr⟩⟩
          obtain ⟨o,e4,h4⟩:=s4
          have p12:=Go.Sort.permIn_trans _ _ _ _ _ p1 p2
          rcases h4 with ⟨R,rfl,hR⟩ | ⟨D3,rfl,p3⟩
          · refine ⟨R, zZ ?_, Go.Sort.permIn_trans _ _ _ _ _ p12 hR.1, hR.2⟩
            unfold aj
            simp only
            rw [w,zM (by simp; omega),zM (by simpa using hl0),e1,AA]
            simp only
            rw [e2,AA]
            simp only
            rw [e3,AA]
            simp only
            rw [e4,AA]
            rfl
          · have p13 := Go.Sort.permIn_trans _ _ _ _ _ p12 p3
            have z3:=p3.1
            have B3:Below CP a b D3:=B2.perm (by omega) p3
            have e5:(bif decide ((a:Int)>0) then (bnd (AU D3.toList (wrap .i64 ((a:Int) - 1))) fun x1=>bnd (AU D3.toList (pv:Int)) fun x2=>bnd (zH x1 x2) fun r7=>some (!r7)) else (some false):Option Bool)=some (decide (a>0)&&!CP D3[a - 1]! D3[pv]!):=by
              by_cases h0:a>0
              · rw [zS (by simp; omega), zC (by omega) (by omega), show ((a : Int) - 1) = ((a - 1 : Nat) : Int) by omega, yP (by omega), AA, yP (by omega), AA, mG, AA]
                simp [h0]
              · rw [zM (by simp; omega)]
                simp [h0]
            have hcont:∀ (s':List Int × Int × Int × Int × Bool × Bool),(bif (decide (a>0)&&!CP D3[a - 1]! D3[pv]!) then (bnd (yS D3.toList (a:Int) (b:Int) (pv:Int)) fun r8=>bnd (yV D3.toList.length r8.1) fun l6=>some (.next (r8.1,r8.2,(b:Int),L1,wb,wp))) else (bnd (xL D3.toList (a:Int) (b:Int) (pv:Int)) fun r9=>bnd (yV D3.toList.length r9.1) fun l7=>bif decide ((wrap .i64 (r9.2.1 - (a:Int)))<(wrap .i64 ((b:Int) - r9.2.1))) then (bnd (rec r9.1 (a:Int) r9.2.1 L1) fun r10=>bnd (yV r9.1.length r10) fun l8=>some (.next (r10,wrap .i64 (r9.2.1+1),(b:Int),L1,decide ((wrap .i64 (r9.2.1 - (a:Int)))≥(wrap .i64 (((b - a:Nat):Int).tdiv 8))),r9.2.2))) else (bnd (rec r9.1 (wrap .i64 (r9.2.1+1)) (b:Int) L1) fun r11=>bnd (yV r9.1.length r11) fun l9=>some (.next (r11,(a:Int),r9.2.1,L1,decide ((wrap .i64 ((b:Int) - r9.2.1))≥(wrap .i64 (((b - a:Nat):Int).tdiv 8))),r9.2.2)))):Option (vM (List Int × Int × Int × Int × Bool × Bool) ((List Int) ⊕ Unit)))=some (.next s')→aj rec (d.toList,(a:Int),(b:Int),limit,wb,wp)=some (.next s'):=by
              intro s' hs'
              unfold aj
              simp only
              rw [w,zM (by simp; omega),zM (by simpa using hl0),e1,AA]
              simp only
              rw [e2,AA]
              simp only
              rw [e3,AA]
              simp only
              rw [e4,AA]
              show bnd _ _=_
              rw [e5,AA]
              exact hs'
            cases hcond:(decide (a>0)&&!CP D3[a - 1]! D3[pv]!) with
            | true=>
              rw [hcond] at hcont
              have hc2:a>0∧CP D3[a - 1]! D3[pv]! =false:=by simpa using hcond
              obtain ⟨g1,g2,g3,g4,g5⟩:=Go.Sort.round_eq ql (Go.Sort.partitionEqual_holds CP) hc2.1 v1 v2 (by omega) B3 hc2.2 (mid:=(Go.Sort.partitionEqual CP D3 a b pv).1) (d4:=(Go.Sort.partitionEqual CP D3 a b pv).2) O
              obtain ⟨R,h5,h6⟩:=Jd hrec k _ b _ L1 wb wp (by omega) (by omega) g2 (by omega) (by omega) g4
              have h7:=g5 R h6.1 h6.2
              refine ⟨R,yQ (hcont _ ?_) h5,Go.Sort.permIn_trans _ _ _ _ _ p13 h7.1,h7.2⟩
              rw [cond_true,zDh (by omega) (by omega) (by omega) (by omega),AA,kV (by simp; exact g3),AA]
            | false=>
              rw [hcond] at hcont
              have eP:=zKz (d:=D3) (a:=a) (b:=b) (pivot:=pv) (by omega) (by omega) (by omega) (by omega)
              obtain ⟨g1,g2,g3,g4,g5,g6,g7⟩:=Go.Sort.round_part ql (Go.Sort.partition_holds CP) v1 v2 (by omega) B3 (mid:=(Go.Sort.partition CP D3 a b pv).1) (ap:=(Go.Sort.partition CP D3 a b pv).2.1) (d4:=(Go.Sort.partition CP D3 a b pv).2.2) O
              revert eP g1 g2 g3 g4 g5 g6 g7
              generalize Go.Sort.partition CP D3 a b pv=q
              intro eP g1 g2 g3 g4 g5 g6 g7
              have wl:wrap .i64 ((q.1:Int) - (a:Int))=((q.1 - a:Nat):Int):=by rw [zC (by omega) (by omega)]; omega
              have wr2:wrap .i64 ((b:Int) - (q.1:Int))=((b - q.1:Nat):Int):=by rw [zC (by omega) (by omega)]; omega
              by_cases hlr:q.1 - a<b - q.1
              · obtain ⟨L, l1, l2⟩ := hrec q.2.2 a q.1 L1 (by omega) g1 (by omega) (by omega) g4
                obtain ⟨m1,m2⟩:=g6 L l2.1 l2.2
                have zL:=l2.1.1
                obtain ⟨R,h5,h6⟩:=Jd hrec k (q.1+1) b L L1 (decide (((q.1 - a:Nat):Int)≥wrap .i64 (((b - a:Nat):Int).tdiv 8))) q.2.1 (by omega) (by omega) (by omega) (by omega) (by omega) m1
                have h7:=m2 R h6.1 h6.2
                refine ⟨R,yQ (hcont _ ?_) h5,Go.Sort.permIn_trans _ _ _ _ _ p13 h7.1,h7.2⟩
                rw [cond_false,eP,AA,kV (by simp; exact g3),AA]
                simp only
                rw [wl,wr2,zS (by simp; omega),l1,AA,kV (by simp; omega),AA,MP (by omega)]
              · obtain ⟨L, l1, l2⟩ := hrec q.2.2 (q.1 + 1) b L1 (by omega) (by omega) (by omega) (by omega) g5
                obtain ⟨m1,m2⟩:=g7 L l2.1 l2.2
                have zL:=l2.1.1
                obtain ⟨R,h5,h6⟩:=Jd hrec k a q.1 L L1 (decide (((b - q.1:Nat):Int)≥wrap .i64 (((b - a:Nat):Int).tdiv 8))) q.2.1 (by omega) (by omega) (by omega) (by omega) (by omega) m1
                have h7:=m2 R h6.1 h6.2
                refine ⟨R,yQ (hcont _ ?_) h5,Go.Sort.permIn_trans _ _ _ _ _ p13 h7.1,h7.2⟩
                rw [cond_false,eP,AA,kV (by simp; exact g3),AA]
                simp only
                rw [wl,wr2,zM (by simp; omega),MP (by omega),l1,AA,kV (by simp; omega),AA]
theorem zOQ:∀ (n:Nat),zOx n (wF n)
 | 0=>fun e a b limit h=>by omega
 | n+1=>fun e a b limit h hab hb hs hB=>by
  obtain ⟨R,h1,h2⟩:=Jd (zOQ n) _ a b e limit true true (Nat.le_refl _) (by omega) hab hb hs hB
  refine ⟨R,?_,h2⟩
  show wU (wF n) _ _ _ _=_
  unfold wU
  unfold aj at h1
  rw [h1]
  rfl
def jG:Nat:=1000
theorem zGl:jG≤1000:=Nat.le_refl _
theorem zYP {l:List Int} (h:l.length≤jG):sP l=some (l.mergeSort fun x y=>decide (x≤y)):=by
 have h:l.length≤1000:=h
 unfold sP
 rw [lF (by omega),zQy ⟨l.length,by omega⟩,AA]
 obtain ⟨R,h1,h2⟩:=zOQ (l.length+1) l.toArray 0 l.length ((bitsLen l.length:Nat):Int) (by omega) (by omega) (by simp) (by simpa using h) (.inl O)
 have h3:tE l 0 (l.length:Int) ((bitsLen l.length:Nat):Int)=some R.toList:=h1
 have hz:R.size=l.length:=by have:=h2.1.1; simpa using this
 rw [h3,AA,kV (by simpa using hz),AA]
 have h4:=Go.Sort.sorted_unique_holds (lt:=CP) ql (fun x y h1 h2=>by
  simp only [Go.Sort.ltInt,decide_eq_false_iff_not] at h1 h2
  omega) l.toArray R (by simpa using h2.1) (by simpa using h2.2)
 rw [h4]
 congr 1
 have e:(fun x y:Int=>!CP y x)=fun x y=>decide (x≤y):=by
  funext x y
  simp only [Go.Sort.ltInt]
  by_cases h:x≤y
  ·simp [h]
  ·simp [h]; omega
 rw [e]
def Uk (m:Option (List (Int × List Int))):Option Unit:=some ()
theorem zPi {A:Option Nat} {m:Option (List (Int × List Int))} {r:Unit} (h:Uk m=some r):
  AX Tryz.prog 98 [.map A] [.res (yZ (xE .u8) (DC AP) A m)]
   (fun v F'=>∃ g,v= .func (.func 130) #[] #[.pointer (some ⟨g,0,none⟩)]∧F'= [.res (Box g 114 [.map A]), .res (yZ (xE .u8) (DC AP) A m)]):=by
 refine AX.intro Tryz.func98 O O O fun w R=>?_
 refine St.seq ?_
 refine St.region ?_
 refine St.box O O fun g=>?_
 refine St.p O O ?_
 refine St.done ?_
 refine St.AB ?_
 refine St.seq ?_
 refine St.region ?_
 iterate 2 refine St.p O O ?_
 refine St.done ?_
 refine St.AB ?_
 refine St.ret ?_
 exact St.MN Tryz.results98 (.tmp O .nil) O [.res (Box g 114 [.map A]), .res (yZ (xE .u8) (DC AP) A m)] ⟨g,O,O⟩ (fun _ w=>w)
def iV (m:Option (List (Int × List Int))):Option (List Int):=
 if (m.getD []).length≤jG then some (((m.getD []).map (·.1)).mergeSort fun x y=>decide (x≤y)) else none
theorem zPw {l l':List Int} (h:l.Perm l'):(l.mergeSort fun x y=>decide (x≤y))=l'.mergeSort fun x y=>decide (x≤y):=by
 have ht:∀ (a b c:Int),decide (a≤b)=true→decide (b≤c)=true→decide (a≤c)=true:=fun a b c h1 h2=>by simp at*; omega
 have hT:∀ (a b:Int),(decide (a≤b)||decide (b≤a))=true:=fun a b=>by simp; omega
 refine List.Perm.eq_of_pairwise (le:=fun x y=>decide (x≤y)=true) (fun a b _ _ h1 h2=>by simp at h1 h2; omega) (List.pairwise_mergeSort ht hT _) (List.pairwise_mergeSort ht hT _) ?_
 exact (List.mergeSort_perm _ _).trans (h.trans (List.mergeSort_perm _ _).symm)
theorem zQk {l l':List Int} (h:(l.map (xE .u8).v).Perm (l'.map (xE .u8).v)):l.Perm l':=by
 have e:∀ l:List Int,(l.map (xE .u8).v).filterMap (fun v=>match v with | .int _ x=>some x | _=>none)=l:=fun l=>by
  induction l with
  | nil=>rfl
  | cons x r ih=>rw [List.map_cons,List.filterMap_cons]; show x::_=_; rw [ih]
 have:=h.filterMap (fun v=>match v with | .int _ x=>some x | _=>none)
 rw [e,e] at this
 exact this
theorem zDk:BV Tryz.prog 159:=⟨_,Tryz.func159,by kernel_rfl,by kernel_rfl⟩
theorem zGS:BV Tryz.prog 128:=⟨_,Tryz.func128,by kernel_rfl,by kernel_rfl⟩
theorem zQX:BV Tryz.prog 129:=⟨_,Tryz.func129,by kernel_rfl,by kernel_rfl⟩
theorem zPW {g:Nat} {A:Option Nat} {m:Option (List (Int × List Int))} (hm:(rV m).length≤1000):
  AX Tryz.prog 128 [.func (.func 130) #[] #[.pointer (some ⟨g,0,none⟩)]] [.res (Box g 114 [.map A]), .res (yZ (xE .u8) (DC AP) A m)]
   (fun v F'=>∃ B c ss,(ss.map (xE .u8).v).Perm ((rV m).map (xE .u8).v)∧v= .slice B ss.length c∧F'= [.res (Box g 114 [.map A]), .res (yZ (xE .u8) (DC AP) A m), .res (zD AP 5 B c ss)]):=by
 refine AX.intro Tryz.func128 O O O fun w R=>?_
 refine St.seq ?_
 refine St.region ?_
 refine St.p O O ?_
 refine St.done ?_
 refine St.AB ?_
 refine St.seq ?_
 refine St.region ?_
 refine St.p O O ?_
 refine St.call (zMc hm) zDk O O O (fun _ w=>w) ?_
 rintro _ _ ⟨B,c,ss,hp,rfl,rfl⟩
 refine St.p O O ?_
 refine St.done ?_
 refine St.AB ?_
 refine St.ret ?_
 exact St.MN Tryz.results128 (.tmp O .nil) O [.res (Box g 114 [.map A]), .res (yZ (xE .u8) (DC AP) A m), .res (zD AP 5 B c ss)] ⟨B,c,ss,hp,O,O⟩ (fun _ w=>w)
theorem zKB {g:Nat} {A:Option Nat} {m:Option (List (Int × List Int))} {r:List Int} (h:iV m=some r):
  AX Tryz.prog 97 [.func (.func 130) #[] #[.pointer (some ⟨g,0,none⟩)]] [.res (Box g 114 [.map A]), .res (yZ (xE .u8) (DC AP) A m)]
   (fun v F'=>∃ B c,v= .slice B r.length c∧F'= [.res (Box g 114 [.map A]), .res (yZ (xE .u8) (DC AP) A m), .res (zD AP 5 B c r)]):=by
 unfold iV at h
 split at h
 ·rename_i hl
  injection h with h
  have hm0:(rV m).length≤jG:=by simpa [rV] using hl
  have hm:(rV m).length≤1000:=Nat.le_trans hm0 zGl
  refine AX.intro Tryz.func97 O O O fun w R=>?_
  refine St.seq ?_
  refine St.region ?_
  refine St.p O O ?_
  refine St.done ?_
  refine St.AB ?_
  refine St.seq ?_
  refine St.region ?_
  refine St.p O O ?_
  refine St.call (zPW hm) zGS O O O (fun _ w=>w) ?_
  rintro _ _ ⟨B,c,ss,hp,rfl,rfl⟩
  refine St.p O O ?_
  refine St.done ?_
  refine St.AB ?_
  have hpk:=zQk hp
  have hlen:ss.length≤jG:=by rw [hpk.length_eq]; exact hm0
  have hr:ss.mergeSort (fun x y=>decide (x≤y))=r:=by rw [zPw hpk]; exact h
  have hs8:=zYP hlen
  rw [hr] at hs8
  have hrl:ss.length=r.length:=by rw [←hr]; exact ((List.mergeSort_perm _ _).length_eq).symm
  refine St.seq ?_
  refine St.region ?_
  refine St.p O O ?_
  refine St.call (R:=.res (Box g 114 [.map A]):: .res (yZ (xE .u8) (DC AP) A m)::R) (fE hs8) zQX O O O (fun _ w=>w.front (FX 2 O)) ?_
  rintro _ _ ⟨rfl,rfl⟩
  refine St.done ?_
  refine St.AB ?_
  refine St.seq ?_
  refine St.region ?_
  iterate 2 refine St.p O O ?_
  refine St.done ?_
  refine St.AB ?_
  refine St.ret ?_
  exact St.MN Tryz.results97 (.tmp O .nil) O [.res (Box g 114 [.map A]), .res (yZ (xE .u8) (DC AP) A m), .res (zD AP 5 B c r)] ⟨B,c,by rw [hrl],O⟩ (fun _ w=>(w.front (FX 2 O)).front (FX 2 O))
 ·cases h
section
variable {P:Program} [T:ET P] {w0:World} {nt:Nat} {Γ:Env} {F:List As} {ops:Array Oper} {rest:List Oper}
variable {d:Nat} {ty:Nat} {pos:String} {af:Array Edge} {X:List Oper→Act→World→Prop}
theorem zRB {tt:TT} (hk:nZ P tt) {t e:Nat} {i:TI} (hi:zY tt t=some i) (hdesc:i.desc= .array 3 e) {a:Act} {x:Operand} {A:Option Addr} {n c:Nat}
  (hx:a.eval x= .slice A n c) (h:2<n) (w:World) (dst:Option Nat) (g:Option (Nat × Bool)):
  (execOp a.eval ⟨dst, .sliceToArrayPointer t x,ty,pos,af,g⟩).run P w= .ok (.value (.pointer A)) w:=by
 obtain ⟨dd,hu,hdd⟩:=hk.desc hi
 simp [execOp,Instr.arrayAt,hx,run_underlying hu,TD.of_array (hdd.trans hdesc),Nat.not_lt.2 (show 3≤n from h)]
theorem St.s2a [W:Walk P ops X] {t e:Nat} {i:TI} {x:Operand} {A:Option Addr} {n c:Nat} {xs:List Int} {y0 y1 y2:Int} (h0:AU xs 0=some y0) (h1:AU xs 1=some y1) (h2:AU xs 2=some y2)
    (hd:Nat.blt d nt=true) (hx:ev Γ x=some (.slice A n c)) (hm:As.ro (BP AP A c xs)∈F) (hlen:n=xs.length) (hi:zY T.tt t=some i) (hdesc:i.desc= .array 3 e)
    (k:∀ b o,St w0 nt ((d, .pointer (some ⟨b,o,none⟩))::Γ) (.ro (vJ b o [.int .u8 y0, .int .u8 y1, .int .u8 y2])::F) (X rest)):St w0 nt Γ F (X (⟨some d, .sliceToArrayPointer t x,ty,pos,af,none⟩::rest)):=
  fun a w hs hdf ha hf hw=>by
    obtain ⟨_,l2,e2⟩:=vG h2
    obtain ⟨_,_,e0⟩:=vG h0
    obtain ⟨_,_,e1⟩:=vG h1
    obtain ⟨g1,g2,g3,g4⟩:=hf.ro hm
    cases A with
    | none=>rw [g3 O] at e2; simp at e2
    | some ad=>
      obtain ⟨hsp,cs0,hr0,hc0⟩:=g4 ad rfl _ _ e0
      obtain ⟨_,cs1,hr1,hc1⟩:=g4 ad rfl _ _ e1
      obtain ⟨_,cs2,hr2,hc2⟩:=g4 ad rfl _ _ e2
      have hr0:cs0= [.int .u8 y0]:=hr0
      have hr1:cs1= [.int .u8 y1]:=hr1
      have hr2:cs2= [.int .u8 y2]:=hr2
      subst hr0 hr1 hr2
      have hadd:ad=⟨ad.block,ad.off,none⟩:=by cases ad; simp_all
      refine W.val _ _ _ _ _ (yT O _) (fun w' he=>zRB T.ok hi hdesc (ha.eval hx) (by omega) w' _ _) ?_
      have hf2:Sat (.ro (vJ ad.block ad.off [.int .u8 y0, .int .u8 y1, .int .u8 y2])::F) w:=
        hf.EO (vJ _ _ _) (fun i u hu=>by
          rcases i with _ | _ | _ | i
          · have:=hc0 0 _ O; simp at hu; subst hu; simpa using this
          · have:=hc1 0 _ O; simp at hu; subst hu; simpa [DC,FH.flat,AP] using this
          · have:=hc2 0 _ O; simp at hu; subst hu; simpa [DC,FH.flat,AP] using this
          · simp at hu)
      rw [hadd]
      exact k _ _ _ w (by simp [Act.put,hs]) hdf (ha.put (hs▸Nat.le_of_ble_eq_true hd)) hf2 hw
end
def zMo (l:List Int):Option Unit:=some ()
theorem zRC {l:List Int} {A:Option Addr} {c:Nat} {r:Unit} (h:zMo l=some r):
  AX Tryz.prog 145 [.slice A l.length c] [.ro (BP AP A c l)]
   (fun v F'=>∃ g,v= .func (.func 169) #[] #[.pointer (some ⟨g,0,none⟩)]∧F'= [.res (Box g 29 [.slice A l.length c])]):=by
 refine AX.intro Tryz.func145 O O O fun w R=>?_
 refine St.seq ?_
 refine St.region ?_
 refine St.box O O fun g=>?_
 refine St.p O O ?_
 refine St.done ?_
 refine St.AB ?_
 refine St.seq ?_
 refine St.region ?_
 iterate 2 refine St.p O O ?_
 refine St.done ?_
 refine St.AB ?_
 refine St.ret ?_
 exact St.MN Tryz.results145 (.tmp O .nil) O [.res (Box g 29 [.slice A l.length c])] ⟨g,O,O⟩ (fun _ w=>((.k (.d .z)):mM _ _).sat w)
def cV1:Nat→Int
 | 0=>1
 | _=>0
def pV1 (x:Int):Nat→List Int
 | 0=> [x]
 | _=> []
theorem zPZ {ε:Type} {l N:Nat} {Y:ε→List Int→List As} (hY:Ak Tryz.prog l N Y) {g:Nat} {A:Option Addr} {c:Nat} {x:Int} (hN:1≤N) (e0:ε):
  AX Tryz.prog 169 [.func (.yield l) #[] #[], .pointer (some ⟨g,0,none⟩)] (.ro (BP AP A c [x]):: .res (Box g 29 [.slice A 1 c])::Y e0 [])
   (fun v F'=>∃ e ss,ss= [x]∧F'= .ro (BP AP A c [x]):: .res (Box g 29 [.slice A 1 c])::Y e ss):=by
 refine AX.intro Tryz.func169 O O O fun w R=>?_
 refine St.seq ?_
 refine St.region ?_
 refine St.JJ 0 O O EI O O ?_
 iterate 2 refine St.p O O ?_
 refine St.done ?_
 refine St.AB ?_
 refine St.slots (Γ':= [(0, .func (.yield l) #[] #[]),(1, .pointer (some ⟨g,0,none⟩)),(5, .slice A 1 c),(6, .int .i64 1),(7, .int .i64 0)]) ⟨O,O,O,O,O,trivial⟩ ?_
 refine St.block ?_
 refine St.loop (gC 1) (fun (k:Nat) (_:ε)=> [(0, .func (.yield l) #[] #[]),(1, .pointer (some ⟨g,0,none⟩)),(5, .slice A 1 c),(6, .int .i64 1),(7, .int .i64 (cV1 k))]) (fun k e=>.ro (BP AP A c [x]):: .res (Box g 29 [.slice A 1 c])::(Y e (pV1 x k)++R)) (fun k e=>k≤1) e0 (Nat.le_refl 1) ⟨O,O,O,O,O,trivial⟩ (fun _ w=>w) ?_
 rintro k e hk -
 have hk2:k=0∨k=1:=by omega
 rcases hk2 with rfl | rfl
 ·refine St.seq ?_
  refine St.region ?_
  refine St.p O O ?_
  refine St.done ?_
  refine St.AB ?_
  refine St.seq ?_
  refine St.FN O ?_
  refine St.exit ?_
  repeat (first | refine St.QW ?_ | refine St.KX rfl ?_)
  refine St.NJ ?_
  exact St.WT (rs:= []) O O (.ro (BP AP A c [x]):: .res (Box g 29 [.slice A 1 c])::Y e [x]) ⟨e, [x],O,O⟩ (fun _ w=>w)
 ·refine St.seq ?_
  refine St.region ?_
  refine St.p O O ?_
  refine St.done ?_
  refine St.AB ?_
  refine St.seq ?_
  refine St.EF O ?_
  refine St.skip ?_
  refine St.AB ?_
  refine St.slots (Γ':= [(0, .func (.yield l) #[] #[]),(1, .pointer (some ⟨g,0,none⟩)),(5, .slice A 1 c),(6, .int .i64 1),(7, .int .i64 0)]) ⟨O,O,O,O,O,trivial⟩ ?_
  refine St.seq ?_
  refine St.block ?_
  refine St.seq ?_
  refine St.region ?_
  refine St.LK (E:=AP) (xs:= [x]) (y:=x) O O O O (.head _) O O O O O fun b o=>?_
  refine St.load o 0 O O (.head _) O O ?_
  refine St.p O O ?_
  refine St.done ?_
  refine St.AB ?_
  refine St.seq ?_
  refine St.RD ?_
  iterate 2 refine St.p O O ?_
  refine St.yield hY (e:=e) (pre:= []) (R:=.ro (BP AP A c [x]):: .res (Box g 29 [.slice A 1 c])::R) hN O O O (fun _ w=>?_) fun e'=>?_
  ·refine (((.d .z):mM _ _).sat w).perm ?_
   exact ((List.perm_middle (l₁:=Y e [])).trans (List.Perm.cons _ (List.perm_middle (l₁:=Y e [])))).symm
  refine St.p O O ?_
  refine St.YL ?_
  refine St.AB ?_
  refine St.FN O ?_
  refine St.skip ?_
  refine St.BF ?_
  refine St.AB ?_
  refine St.region ?_
  iterate 2 refine St.p O O ?_
  refine St.done ?_
  exact St.again 0 e' O (Nat.zero_le 1) ⟨O,O,O,O,O,trivial⟩ (fun _ w=>w.perm ((List.perm_middle (l₁:=Y e' ([]++ [x]))).trans (List.Perm.cons _ (List.perm_middle (l₁:=Y e' ([]++ [x]))))))
theorem zMR:BV Tryz.prog 169:=⟨_,Tryz.func169,by kernel_rfl,by kernel_rfl⟩
theorem zJU {g:Nat} {A:Option Addr} {cc:Nat} {x1:Int}:
  AX Tryz.prog 159 [.slice none 0 0, .func (.func 169) #[] #[.pointer (some ⟨g,0,none⟩)]] [.ro (BP AP A cc [x1]), .res (Box g 29 [.slice A 1 cc])]
   (fun v F'=>∃ B c ss,ss= [x1]∧v= .slice B ss.length c∧F'= [.ro (BP AP A cc [x1]), .res (Box g 29 [.slice A 1 cc]), .res (zD AP 5 B c ss)]):=by
 refine AX.UE Tryz.func159 O O O fun w R=>?_
 refine St.seq ?_
 refine St.region ?_
 refine St.box O O fun bs=>?_
 refine St.p O O ?_
 refine St.done ?_
 refine St.AB ?_
 refine St.seq ?_
 refine St.seq ?_
 refine St.region ?_
 refine St.p O O ?_
 refine St.done ?_
 refine St.AB ?_
 refine St.slots (Γ':= [(2, .pointer (some ⟨bs,0,none⟩)),(6, .func (.func 169) #[] #[.pointer (some ⟨g,0,none⟩)])]) ⟨O,O,trivial⟩ ?_
 refine St.block ?_
 refine St.RF (N:=1) (q:=5) (caps:= [.pointer (some ⟨g,0,none⟩)]) (Y0:=ou bs) (S:=fun ss=>ss= [x1]) (G:= [.ro (BP AP A cc [x1]), .res (Box g 29 [.slice A 1 cc])]) (R:=R) (none,0) O zMR O (fun w h=>?_) (fun l Y hY=>zPZ hY (Nat.le_refl 1) _) ?_ ?_ (fun x F w1=>?_) (fun e pre x R w1 hl=>?_) ?_
 ·exact (((h.EH AP 5).front (.s .z)).front (FX 3 O)).front (FX 3 O)
 ·intro o ho
  simp only [List.mem_cons,List.not_mem_nil,or_false] at ho
  subst ho
  exact hZ
 ·intro o ho
  simp only [List.mem_cons,List.not_mem_nil,or_false] at ho
  rcases ho with rfl | rfl | rfl | rfl | rfl
  ·exact aE
  ·exact zFV
  ·exact zEM
  ·exact zCR
  ·exact zEI
 ·refine St.p O O ?_
  refine St.done ?_
  refine St.slots (Γ':= [(5, .int .u8 x),(2, .pointer (some ⟨bs,0,none⟩)),(6, .func (.func 169) #[] #[.pointer (some ⟨g,0,none⟩)])]) ⟨O,O,O,trivial⟩ ?_
  exact St.ends
 ·have happ:app 1 pre [x]=some (pre++ [x]):=by
   unfold app
   rw [if_pos (by simp; omega)]
  refine St.JJ 0 O O (.head _) O O ?_
  refine St.p O O ?_
  refine St.buildSlice O O O O O O O O fun g1=>?_
  refine St.app (E:=AP) happ O O O (FX 2 O) O O O O O O O O (oP (.head _) O O) O O fun A4 c4=>?_
  refine St.store 0 O O O O O O (FX 2 O) O ?_
  refine St.done ?_
  intro a w hs hdf ha hf hw
  exact ⟨O,(A4,c4),((.k (.k (.d .z))):mM _ _).sat hf,hw⟩
 ·intro b e ss hS a w1 hs hdf ha hf hw
  have hst:∀ {X:Act→World→Prop},St w _ [(2, .pointer (some ⟨bs,0,none⟩)),(6, .func (.func 169) #[] #[.pointer (some ⟨g,0,none⟩)])] (.res (TG b)::([.ro (BP AP A cc [x1]), .res (Box g 29 [.slice A 1 cc])]++(ou bs e ss++R))) X→X a w1:=fun h=>h a w1 hs hdf ha hf hw
  refine wp_seq ?_
  refine wp_region_lit (Ih (Qx:=Am w Tryz.f159.ntmps [(4, .slice e.1 ss.length e.2)] (.res (TG b)::([.ro (BP AP A cc [x1]), .res (Box g 29 [.slice A 1 cc])]++(ou bs e ss++R)))) ?_ _ a w1 ?_ (hst ?_))
  ·rintro o a2 w2 ⟨rfl,h1,h2,h3,h4,h5⟩
   refine ⟨O,?_⟩
   refine wp_ret ?_
   have hD:w2.heap[b]? =some (.deferred (some [])):=h4.res (List.mem_cons_self ..)
   have hwr:sO (TG b).gs w2 (w2.putObj b (.deferred none)):=jE
   have h6:=h4.UF hwr
   refine ⟨by simp, .inl ⟨b,_,O,run_takeDeferred hD, .slice e.1 ss.length e.2,eG h3 (rs:= [.tmp 4]) O O,?_⟩⟩
   refine ⟨_,_,O,⟨e.1,e.2,ss,hS,O,O⟩,?_,h5.trans hwr.toSame⟩
   exact ((.k (.k (.d (.k .z)))):mM _ _).sat h6
  ·intro o ho
   simp only [List.mem_cons,List.not_mem_nil,or_false] at ho
   rcases ho with rfl | rfl
   ·exact aE
   ·exact hZ
  ·refine St.JJ 0 O O Nu O O ?_
   refine St.p O O ?_
   refine St.done ?_
   refine St.slots (Γ':= [(4, .slice e.1 ss.length e.2)]) ⟨O,trivial⟩ ?_
   exact St.ends
theorem zMK {g:Nat} {A:Option Addr} {cc:Nat} {x1:Int}:
  AX Tryz.prog 128 [.func (.func 169) #[] #[.pointer (some ⟨g,0,none⟩)]] [.ro (BP AP A cc [x1]), .res (Box g 29 [.slice A 1 cc])]
   (fun v F'=>∃ B c ss,ss= [x1]∧v= .slice B ss.length c∧F'= [.ro (BP AP A cc [x1]), .res (Box g 29 [.slice A 1 cc]), .res (zD AP 5 B c ss)]):=by
 refine AX.intro Tryz.func128 O O O fun w R=>?_
 refine St.seq ?_
 refine St.region ?_
 refine St.p O O ?_
 refine St.done ?_
 refine St.AB ?_
 refine St.seq ?_
 refine St.region ?_
 refine St.p O O ?_
 refine St.call zJU zDk O O O (fun _ w=>w) ?_
 rintro _ _ ⟨B,c,ss,hp,rfl,rfl⟩
 refine St.p O O ?_
 refine St.done ?_
 refine St.AB ?_
 refine St.ret ?_
 exact St.MN Tryz.results128 (.tmp O .nil) O [.ro (BP AP A cc [x1]), .res (Box g 29 [.slice A 1 cc]), .res (zD AP 5 B c ss)] ⟨B,c,ss,hp,O,O⟩ (fun _ w=>w)
theorem zUf:BV Tryz.prog 213:=⟨_,Tryz.func213,by kernel_rfl,by kernel_rfl⟩
theorem zTy:BV Tryz.prog 198:=⟨_,Tryz.func198,by kernel_rfl,by kernel_rfl⟩
theorem zTs:BV Tryz.prog 168:=⟨_,Tryz.func168,by kernel_rfl,by kernel_rfl⟩
theorem zUm:BV Tryz.prog 161:=⟨_,Tryz.func161,by kernel_rfl,by kernel_rfl⟩
theorem zPI {A:Option Addr} {c:Nat} {cv:Value}:
  AX Tryz.prog 213 [.slice A 1 c, .int .i64 0, .int .i64 1,cv] [] (fun v F'=>v= .tuple #[]∧F'= []):=by
 refine AX.intro Tryz.func213 O O O fun w R=>?_
 refine St.seq ?_
 refine St.region ?_
 iterate 3 refine St.p O O ?_
 refine St.done ?_
 refine St.AB ?_
 refine St.slots (Γ':= [(1, .int .i64 0),(2, .int .i64 1),(8, .int .i64 1)]) ⟨O,O,O,trivial⟩ ?_
 refine St.block ?_
 refine St.loop (gC 0) (fun (_:Nat) (_:Unit)=> [(1, .int .i64 0),(2, .int .i64 1),(8, .int .i64 1)]) (fun _ _=> []++R) (fun _ _=>True) () trivial ⟨O,O,O,trivial⟩ (fun _ w=>w) ?_
 rintro k e - -
 refine St.seq ?_
 refine St.seq ?_
 refine St.region ?_
 iterate 3 refine St.p O O ?_
 refine St.done ?_
 refine St.AB ?_
 refine St.FN O ?_
 refine St.exit ?_
 repeat (first | refine St.QW ?_ | refine St.KX rfl ?_)
 refine St.NJ ?_
 exact St.WT (rs:= []) O O [] ⟨O,O⟩ (fun _ w=>w)
theorem zPT {A:Option Addr} {c:Nat} {cv:Value} {q:Int}:
  AX Tryz.prog 198 [.slice A 1 c, .int .i64 0, .int .i64 1, .int .i64 q,cv] [] (fun v F'=>v= .tuple #[]∧F'= []):=by
 refine AX.intro Tryz.func198 O O O fun w R=>?_
 refine St.seq ?_
 refine St.region ?_
 refine St.p O O ?_
 refine St.done ?_
 refine St.AB ?_
 refine St.seq ?_
 refine St.region ?_
 refine St.p O O ?_
 refine St.done ?_
 refine St.AB ?_
 refine St.slots (Γ':= [(0, .slice A 1 c),(1, .int .i64 0),(2, .int .i64 1),(4,cv)]) ⟨O,O,O,O,trivial⟩ ?_
 refine St.block ?_
 refine St.loop (gC 0) (fun (_:Nat) (_:Unit)=> [(0, .slice A 1 c),(1, .int .i64 0),(2, .int .i64 1),(4,cv)]) (fun _ _=> []++R) (fun _ _=>True) () trivial ⟨O,O,O,O,trivial⟩ (fun _ w=>w) ?_
 rintro k e - -
 refine St.block ?_
 refine St.seq ?_
 refine St.region ?_
 iterate 4 refine St.p O O ?_
 refine St.done ?_
 refine St.AB ?_
 refine St.seq ?_
 refine St.seq ?_
 refine St.region ?_
 iterate 2 refine St.p O O ?_
 refine St.done ?_
 refine St.AB ?_
 refine St.EF O ?_
 refine St.seq ?_
 refine St.region ?_
 iterate 4 refine St.p O O ?_
 refine St.call zPI zUf O O O (fun _ w=>w) ?_
 rintro _ _ ⟨rfl,rfl⟩
 refine St.done ?_
 refine St.AB ?_
 refine St.ret ?_
 repeat (first | refine St.XR ?_ | refine St.uo ?_)
 exact St.MN Tryz.results198 .nil O [] ⟨O,O⟩ (fun _ w=>w)
theorem zUh:pP (wrap .u64 1)=some 1:=by kernel_rfl
theorem zLG {A:Option Addr} {c:Nat} {cv:Value}:
  AX Tryz.prog 168 [.slice A 1 c,cv] [] (fun v F'=>v= .tuple #[]∧F'= []):=by
 refine AX.intro Tryz.func168 O O O fun w R=>?_
 refine St.seq ?_
 refine St.region ?_
 iterate 3 refine St.p O O ?_
 refine St.done ?_
 refine St.AB ?_
 refine St.region ?_
 iterate 4 refine St.p O O ?_
 refine St.XY (iE zUh) zUm O O O O trivial ?_
 refine St.p O O ?_
 refine St.call zPT zTy O O O (fun _ w=>w) ?_
 rintro _ _ ⟨rfl,rfl⟩
 refine St.done ?_
 exact St.WT (rs:= []) O O [] ⟨O,O⟩ (fun _ w=>w)
def bU (l:List Int):Option (List Int):=if l.length=1 then some l else none
theorem zJD {g:Nat} {A:Option Addr} {c:Nat} {l r:List Int} {cv:Value} (h:bU l=some r):
  AX Tryz.prog 144 [.func (.func 169) #[] #[.pointer (some ⟨g,0,none⟩)],cv] [.ro (BP AP A c l), .res (Box g 29 [.slice A l.length c])]
   (fun v F'=>∃ B cc,v= .slice B r.length cc∧F'= [.res (Box g 29 [.slice A l.length c]), .res (zD AP 5 B cc r)]):=by
 unfold bU at h
 split at h
 ·rename_i hl
  injection h with h
  subst h
  obtain ⟨x,rfl⟩:=List.length_eq_one_iff.1 hl
  refine AX.intro Tryz.func144 O O O fun w R=>?_
  refine St.seq ?_
  refine St.region ?_
  refine St.p O O ?_
  refine St.done ?_
  refine St.AB ?_
  refine St.seq ?_
  refine St.region ?_
  refine St.p O O ?_
  refine St.call zMK zGS O O O (fun _ w=>w) ?_
  rintro _ _ ⟨B,cc,ss,rfl,rfl,rfl⟩
  refine St.p O O ?_
  refine St.done ?_
  refine St.AB ?_
  refine St.seq ?_
  refine St.region ?_
  iterate 2 refine St.p O O ?_
  refine St.call zLG zTs O O O (fun _ w=>w) ?_
  rintro _ _ ⟨rfl,rfl⟩
  refine St.done ?_
  refine St.AB ?_
  refine St.seq ?_
  refine St.region ?_
  iterate 2 refine St.p O O ?_
  refine St.done ?_
  refine St.AB ?_
  refine St.ret ?_
  exact St.MN Tryz.results144 (.tmp O .nil) O [.res (Box g 29 [.slice A 1 c]), .res (zD AP 5 B cc [x])] ⟨B,cc,O,O⟩ (fun _ w=>((.d .z):mM _ _).sat w)
 ·cases h
theorem zVU {A:Option Addr} {c:Nat} {cv:Value}:
  AX Tryz.prog 162 [.slice A 0 c,cv] [] (fun v F'=>v= .int .i64 (-1)∧F'= []):=by
 refine AX.intro Tryz.func162 O O O fun w R=>?_
 refine St.seq ?_
 refine St.region ?_
 refine St.p O O ?_
 refine St.done ?_
 refine St.AB ?_
 refine St.seq ?_
 refine St.seq ?_
 refine St.region ?_
 iterate 3 refine St.p O O ?_
 refine St.done ?_
 refine St.AB ?_
 refine St.slots (Γ':= [(7, .int .i64 0),(8, .int .i64 0)]) ⟨O,O,trivial⟩ ?_
 refine St.block ?_
 refine St.loop (gC 0) (fun (_:Nat) (_:Unit)=> [(7, .int .i64 0),(8, .int .i64 0)]) (fun _ _=> []++R) (fun _ _=>True) () trivial ⟨O,O,trivial⟩ (fun _ w=>w) ?_
 rintro k e - -
 refine St.seq ?_
 refine St.region ?_
 refine St.p O O ?_
 refine St.done ?_
 refine St.AB ?_
 refine St.seq ?_
 refine St.FN O ?_
 refine St.exit ?_
 repeat (first | refine St.QW ?_ | refine St.KX rfl ?_)
 refine St.NJ ?_
 refine St.AB ?_
 refine St.seq ?_
 refine St.region ?_
 refine St.p O O ?_
 refine St.done ?_
 refine St.AB ?_
 refine St.ret ?_
 exact St.MN Tryz.results162 (.tmp O .nil) O [] ⟨O,O⟩ (fun _ w=>w)
theorem zUn:BV Tryz.prog 162:=⟨_,Tryz.func162,by kernel_rfl,by kernel_rfl⟩
def bN {α:Type} (l:List α):Option (List α):=if l.length=0 then some l else none
theorem zKh {α:Type} {E:Enc α} {e:Nat} {A:Option Addr} {c:Nat} {cv:Value} {l r:List α} (h:bN l=some r):
  AX Tryz.prog 132 [.slice A l.length c,cv] [.res (zD E e A c l)] (fun v F'=>v= .slice A r.length c∧F'= [.res (zD E e A c r)]):=by
 unfold bN at h
 split at h
 ·rename_i hl
  injection h with h
  subst h
  obtain rfl:l= []:=List.eq_nil_of_length_eq_zero hl
  refine AX.intro Tryz.func132 O O O fun w R=>?_
  refine St.seq ?_
  refine St.region ?_
  refine St.p O O ?_
  refine St.done ?_
  refine St.AB ?_
  refine St.seq ?_
  refine St.region ?_
  iterate 2 refine St.p O O ?_
  refine St.call (R:=.res (zD E e A c [])::R) zVU zUn O O O (fun _ w=>w) ?_
  rintro _ _ ⟨rfl,rfl⟩
  refine St.p O O ?_
  refine St.done ?_
  refine St.AB ?_
  refine St.seq ?_
  refine St.seq ?_
  refine St.region ?_
  iterate 2 refine St.p O O ?_
  refine St.done ?_
  refine St.AB ?_
  refine St.EF O ?_
  refine St.seq ?_
  refine St.region ?_
  iterate 2 refine St.p O O ?_
  refine St.done ?_
  refine St.AB ?_
  refine St.ret ?_
  repeat (first | refine St.XR ?_ | refine St.uo ?_)
  exact St.MN Tryz.results132 (.tmp O .nil) O [.res (zD E e A c [])] ⟨O,O⟩ (fun _ w=>w)
 ·cases h
structure qm (α:Type) where
 e0:α
 e1:α
 e2:α
 e3:α
 e4:α
 e5:α
def qm.set {α:Type} (a:qm α) (q:Int) (y:α):Option (qm α):=match xJ [a.e0,a.e1,a.e2,a.e3,a.e4,a.e5] q y with | some [x0,x1,x2,x3,x4,x5]=>some ⟨x0,x1,x2,x3,x4,x5⟩ | _=>none
structure wG where
 ID:Int
 Instance:Int
structure Bl where
 Raw:Int
 Value:Int
structure nD where
 Form:Int
 Signed:Bool
 M:Int
 B:Int
 K1:Int
 K2:Int
 DW:(List Bl)
structure bY where
 Mask:Int
 Raw:(qm Int)
structure xW where
 Number:Int
 FC:Int
 Unit:Int
 Name:ByteArray
 Entity:wG
 FD:Bool
 Conversion:nD
 BI:bY
 GI:Int
 GK:Int
 GL:Int
 Assert:Int
 CY:Int
 JX:Bool
 GY:Int
structure vK where
 NF:wG
 NG:wG
structure tW where
 Window:(List Int)
 Missing:Int
structure sI where
 AZ:(List xW)
 l:(List vK)
 filters:(List tW)
 states:(List Int)
abbrev xB (x:xW) (A1:Option Addr) (c1:Nat):List Value:= [.int .u8 x.Number, .int .u8 x.FC, .int .u8 x.Unit, .string x.Name, .int .u8 x.Entity.ID, .int .u8 x.Entity.Instance, .bool x.FD, .int .i64 x.Conversion.Form, .bool x.Conversion.Signed, .int .i64 x.Conversion.M, .int .i64 x.Conversion.B, .int .i64 x.Conversion.K1, .int .i64 x.Conversion.K2, .slice A1 x.Conversion.DW.length c1, .int .u8 x.BI.Mask, .int .u8 x.BI.Raw.e0, .int .u8 x.BI.Raw.e1, .int .u8 x.BI.Raw.e2, .int .u8 x.BI.Raw.e3, .int .u8 x.BI.Raw.e4, .int .u8 x.BI.Raw.e5, .int .u8 x.GI, .int .u8 x.GK, .int .u16 x.GL, .int .u16 x.Assert, .int .u16 x.CY, .bool x.JX, .int .i64 x.GY]
def vD:Enc Bl:=⟨2,fun x=> [.int .u8 x.Raw, .int .i64 x.Value],fun _=>O,fun _=>List.all_eq_true.1 O⟩
def yI:List (LC xW):= [.v (fun x=>.int .u8 x.Number) (fun _=>O), .v (fun x=>.int .u8 x.FC) (fun _=>O), .v (fun x=>.int .u8 x.Unit) (fun _=>O), .v (fun x=>.string x.Name) (fun _=>O), .v (fun x=>.int .u8 x.Entity.ID) (fun _=>O), .v (fun x=>.int .u8 x.Entity.Instance) (fun _=>O), .v (fun x=>.bool x.FD) (fun _=>O), .v (fun x=>.int .i64 x.Conversion.Form) (fun _=>O), .v (fun x=>.bool x.Conversion.Signed) (fun _=>O), .v (fun x=>.int .i64 x.Conversion.M) (fun _=>O), .v (fun x=>.int .i64 x.Conversion.B) (fun _=>O), .v (fun x=>.int .i64 x.Conversion.K1) (fun _=>O), .v (fun x=>.int .i64 x.Conversion.K2) (fun _=>O), .s (DC vD) (fun x=>x.Conversion.DW), .v (fun x=>.int .u8 x.BI.Mask) (fun _=>O), .v (fun x=>.int .u8 x.BI.Raw.e0) (fun _=>O), .v (fun x=>.int .u8 x.BI.Raw.e1) (fun _=>O), .v (fun x=>.int .u8 x.BI.Raw.e2) (fun _=>O), .v (fun x=>.int .u8 x.BI.Raw.e3) (fun _=>O), .v (fun x=>.int .u8 x.BI.Raw.e4) (fun _=>O), .v (fun x=>.int .u8 x.BI.Raw.e5) (fun _=>O), .v (fun x=>.int .u8 x.GI) (fun _=>O), .v (fun x=>.int .u8 x.GK) (fun _=>O), .v (fun x=>.int .u16 x.GL) (fun _=>O), .v (fun x=>.int .u16 x.Assert) (fun _=>O), .v (fun x=>.int .u16 x.CY) (fun _=>O), .v (fun x=>.bool x.JX) (fun _=>O), .v (fun x=>.int .i64 x.GY) (fun _=>O)]
abbrev zFq (x:nD) (A1:Option Addr) (c1:Nat):List Value:= [.int .i64 x.Form, .bool x.Signed, .int .i64 x.M, .int .i64 x.B, .int .i64 x.K1, .int .i64 x.K2, .slice A1 x.DW.length c1]
def Je:List (LC Int):= [.v (fun x=>.int .u8 x) (fun _=>O)]
def zX:Enc vK:=⟨4,fun x=> [.int .u8 x.NF.ID, .int .u8 x.NF.Instance, .int .u8 x.NG.ID, .int .u8 x.NG.Instance],fun _=>O,fun _=>List.all_eq_true.1 O⟩
def yO:List (LC tW):= [.s (DC AP) (fun x=>x.Window), .v (fun x=>.int .i64 x.Missing) (fun _=>O)]
abbrev uS (x:sI) (A1:Option Addr) (c1:Nat) (A2:Option Addr) (c2:Nat) (A3:Option Addr) (c3:Nat) (A4:Option Addr) (c4:Nat):List Value:= [.slice A1 x.AZ.length c1, .slice A2 x.l.length c2, .slice A3 x.filters.length c3, .slice A4 x.states.length c4]
structure zA where
 size:Int
 bytes:(List Int)
 AY:(List Int)
 steps:Int
 left:Int
 BU:Int
 down:Bool
abbrev zJ (x:zA) (A1:Option Addr) (c1:Nat) (A2:Option Addr) (c2:Nat):List Value:= [.int .i64 x.size, .slice A1 x.bytes.length c1, .slice A2 x.AY.length c2, .int .i64 x.steps, .int .i64 x.left, .int .u8 x.BU, .bool x.down]
structure dB (α:Type) where
 e0:α
 e1:α
 e2:α
def dB.set {α:Type} (a:dB α) (q:Int) (y:α):Option (dB α):=match xJ [a.e0,a.e1,a.e2] q y with | some [x0,x1,x2]=>some ⟨x0,x1,x2⟩ | _=>none
structure zU where
 ID:Int
 Time:Int
 DF:Int
 DI:Int
 EU:Int
 FC:Int
 CY:Bool
 Data:(dB Int)
structure gY where
 sequence:Int
 event:zU
structure xG where
 d:Bool
 first:Int
 BL:Int
 overwrite:Bool
 newest:Int
 tail:Int
 used:Int
 next:Int
 records:(List gY)
 full:Bool
 number:Int
 held:Bool
 ended:Bool
def fY:List (LC (List Int)):= [.s (DC AP) (fun x=>x)]
structure mS where
 sequence:Int
 tail:Int
 Jf:Int
def Bo:Enc mS:=⟨3,fun x=> [.int .i64 x.sequence, .int .i64 x.tail, .int .u16 x.Jf],fun _=>O,fun _=>List.all_eq_true.1 O⟩
abbrev wR (x:xG) (g1:Nat) (A2:Option Addr) (c2:Nat):List Value:= [.pointer (XD x.d g1), .int .i64 x.first, .int .i64 x.BL, .bool x.overwrite, .int .i64 x.newest, .int .i64 x.tail, .int .i64 x.used, .int .u16 x.next, .slice A2 x.records.length c2, .bool x.full, .int .u16 x.number, .bool x.held, .bool x.ended]
def xV:Enc gY:=⟨11,fun x=> [.int .i64 x.sequence, .int .u16 x.event.ID, .int .u32 x.event.Time, .int .u16 x.event.DF, .int .u8 x.event.DI, .int .u8 x.event.EU, .int .u8 x.event.FC, .bool x.event.CY, .int .u8 x.event.Data.e0, .int .u8 x.event.Data.e1, .int .u8 x.event.Data.e2],fun _=>O,fun _=>List.all_eq_true.1 O⟩
abbrev jD (x:zU):List Value:= [.int .u16 x.ID, .int .u32 x.Time, .int .u16 x.DF, .int .u8 x.DI, .int .u8 x.EU, .int .u8 x.FC, .bool x.CY, .int .u8 x.Data.e0, .int .u8 x.Data.e1, .int .u8 x.Data.e2]
structure lP where
 Number:Int
 OK:Bool
 Raw:Int
 GL:Int
abbrev eJ (x:lP):List Value:= [.int .u8 x.Number, .bool x.OK, .int .u8 x.Raw, .int .u16 x.GL]
def Jg:Enc lP:=⟨4,fun x=> [.int .u8 x.Number, .bool x.OK, .int .u8 x.Raw, .int .u16 x.GL],fun _=>O,fun _=>List.all_eq_true.1 O⟩
def sS:Enc wG:=⟨2,fun x=> [.int .u8 x.ID, .int .u8 x.Instance],fun _=>O,fun _=>List.all_eq_true.1 O⟩
structure jU where
 Index:Int
 Asserted:Bool
def jR:Enc jU:=⟨2,fun x=> [.int .i64 x.Index, .bool x.Asserted],fun _=>O,fun _=>List.all_eq_true.1 O⟩
def uP:Enc zU:=⟨10,fun x=> [.int .u16 x.ID, .int .u32 x.Time, .int .u16 x.DF, .int .u8 x.DI, .int .u8 x.EU, .int .u8 x.FC, .bool x.CY, .int .u8 x.Data.e0, .int .u8 x.Data.e1, .int .u8 x.Data.e2],fun _=>O,fun _=>List.all_eq_true.1 O⟩
structure sE where
 L:(List Int)
 At:Int
structure Ul (α:Type) where
 e0:α
 e1:α
 e2:α
 e3:α
 e4:α
 e5:α
 e6:α
 e7:α
def Ul.set {α:Type} (a:Ul α) (q:Int) (y:α):Option (Ul α):=match xJ [a.e0,a.e1,a.e2,a.e3,a.e4,a.e5,a.e6,a.e7] q y with | some [x0,x1,x2,x3,x4,x5,x6,x7]=>some ⟨x0,x1,x2,x3,x4,x5,x6,x7⟩ | _=>none
structure zQ where
 Kind:Int
 Value:ByteArray
structure zW where
 CX:Bool
 Code:Int
 BK:Int
 Fields:(List zQ)
structure wA where
 CG:zW
 Board:zW
 Product:zW
 Multi:(List Int)
def zP:Enc zQ:=⟨2,fun x=> [.int .i64 x.Kind, .string x.Value],fun _=>O,fun _=>List.all_eq_true.1 O⟩
abbrev jF (x:wA) (A1:Option Addr) (c1:Nat) (A2:Option Addr) (c2:Nat) (A3:Option Addr) (c3:Nat) (A4:Option Addr) (c4:Nat):List Value:= [.bool x.CG.CX, .int .u8 x.CG.Code, .int .u32 x.CG.BK, .slice A1 x.CG.Fields.length c1, .bool x.Board.CX, .int .u8 x.Board.Code, .int .u32 x.Board.BK, .slice A2 x.Board.Fields.length c2, .bool x.Product.CX, .int .u8 x.Product.Code, .int .u32 x.Product.BK, .slice A3 x.Product.Fields.length c3, .slice A4 x.Multi.length c4]
abbrev zGE (x:(dB zW)) (A1:Option Addr) (c1:Nat) (A2:Option Addr) (c2:Nat) (A3:Option Addr) (c3:Nat):List Value:= [.bool x.e0.CX, .int .u8 x.e0.Code, .int .u32 x.e0.BK, .slice A1 x.e0.Fields.length c1, .bool x.e1.CX, .int .u8 x.e1.Code, .int .u32 x.e1.BK, .slice A2 x.e1.Fields.length c2, .bool x.e2.CX, .int .u8 x.e2.Code, .int .u32 x.e2.BK, .slice A3 x.e2.Fields.length c3]
abbrev Um (x:zW) (A1:Option Addr) (c1:Nat):List Value:= [.bool x.CX, .int .u8 x.Code, .int .u32 x.BK, .slice A1 x.Fields.length c1]
structure xN where
 Slot:Int
 Data:(List Int)
def uG:List (LC xN):= [.v (fun x=>.int .i64 x.Slot) (fun _=>O), .s (DC AP) (fun x=>x.Data)]
structure yD where
 d:Bool
 first:Int
 active:Int
 generation:Int
 all:(Option (List (Int × (List Int))))
 tail:Int
 clean:Bool
 ended:Bool
structure uO where
 generation:Int
 all:(Option (List (Int × (List Int))))
 tail:Int
 clean:Bool
structure zB where
 Key:Int
 Value:(List Int)
 Delete:Bool
def yC:List (LC zB):= [.v (fun x=>.int .u8 x.Key) (fun _=>O), .s (DC AP) (fun x=>x.Value), .v (fun x=>.bool x.Delete) (fun _=>O)]
abbrev Un (x:uO) (M1:Option Nat):List Value:= [.int .i64 x.generation, .map M1, .int .i64 x.tail, .bool x.clean]
abbrev pM (x:yD) (g1:Nat) (M2:Option Nat):List Value:= [.pointer (XD x.d g1), .int .i64 x.first, .int .i64 x.active, .int .i64 x.generation, .map M2, .int .i64 x.tail, .bool x.clean, .bool x.ended]
structure zG where
 Slot:Int
 Good:Bool
 AV:ByteArray
 Sum:Int
def vR:Enc zG:=⟨4,fun x=> [.int .i64 x.Slot, .bool x.Good, .string x.AV, .int .u32 x.Sum],fun _=>O,fun _=>List.all_eq_true.1 O⟩
abbrev bV (x:zG):List Value:= [.int .i64 x.Slot, .bool x.Good, .string x.AV, .int .u32 x.Sum]
structure zT where
 Kind:Int
 Slot:Int
 From:Int
def wJ:Enc zT:=⟨3,fun x=> [.int .i64 x.Kind, .int .i64 x.Slot, .int .i64 x.From],fun _=>O,fun _=>List.all_eq_true.1 O⟩
def Uo:List (LC (List Int)):= [.s (DC xA) (fun x=>x)]
def Ur:List (LC Int):= [.v (fun x=>.int .i64 x) (fun _=>O)]
theorem zXq:BV Tryz.prog 145:=en Tryz.func145 (by kernel_rfl)
theorem zWJ:BV Tryz.prog 144:=en Tryz.func144 (by kernel_rfl)
theorem zWX:BV Tryz.prog 132:=en Tryz.func132 (by kernel_rfl)
theorem zWL:BV Tryz.prog 116:=en Tryz.func116 (by kernel_rfl)
theorem zXV:BV Tryz.prog 94:=en Tryz.func94 (by kernel_rfl)
theorem zYs:BV Tryz.prog 98:=en Tryz.func98 (by kernel_rfl)
theorem zYU:BV Tryz.prog 97:=en Tryz.func97 (by kernel_rfl)
end Go.Proofs.YtccooahdinmfmaaGreatDoor
end
