/-
  Texts of this seat, put together: rules, walks, plain laws.
  Conditions: none.
-/
import Derived.Test.YtccooahdinmfmaaGreatDoorPT3
noncomputable section
namespace Go.Proofs.YtccooahdinmfmaaGreatDoor
open Go IntKind
set_option linter.unusedVariables false
set_option linter.unusedSimpArgs false
set_option linter.unusedSectionVars false
set_option maxHeartbeats 4000000
set_option maxRecDepth 10000
theorem zXs:BV Tryz.prog 134:=en Tryz.func134 (by kernel_rfl)
def zAK [AO] (AL:ByteArray):Option Bool:=
 bnd (zI (τ:=Bool ⊕ Unit) (fun (s1:Int)=>bif decide (s1<(AL.size:Int)) then (bnd (DU AL s1) fun y1=>bif decide (y1<32) then (none) else (bif decide (y1>126) then (none) else (some (.next (wrap .i64 (s1+1)))))) else (some (.done (.inr ())))) 0) fun o1=>wN o1 fun o2=>bif decide ((AL.size:Int)≥1) then (some (decide ((AL.size:Int)≤16))) else (none)
theorem zGx [AO] {AL r} (h:zAK AL=some r):
    AX Tryz.prog 134 [.string AL] [] (Val (.bool r)):=by
 refine AX.intro Tryz.func134 O O O fun w R=>?_;refine .ab [0] O<|.seq<|.ab [0,5,6] O<|.bd h fun o1 hl1 h=>.EJ 0 (fun (o2:Unit) (e2:Unit)=>[0]) (fun o2 e2=>[]) O O (fun o2=>o1= .inr o2) ?_ ?_
 ·refine .block<|.BH hl1 0 (fun (s1:Int) (e1:Unit)=>[0,5, .s 6 (.int .i64 s1)]) (fun s1 e1=>[]) O O () (zb O) (fun _ w=>w) ?_;rintro s1 e1 st1 hm1 hd1 h1;refine .ae O<|.seq<|.cb h1 O (fun h1=>?_) (fun h1=>?_)
  ·refine .sk<|.pr [0,5,6] O<|.seq<|.block<|.ab [0,3,5,6] O<|.a 2 O<|.bd h1 fun y1 hy1 h1=>.DU O O O O O hy1<|.n 2 O<|.gs 13 h1 O (fun h1=>?_) (fun h1=>?_)
   ·cases h1
   refine .n 2 O<|.BR O O<|.DU O O O O O hy1<|.b [0,5,6,18] O<|.cb h1 O (fun h1=>?_) (fun h1=>?_)
   ·cases h1
   refine .skip<|.BF<|.AB<|.pr [0,5,6] O<|.region ?_;cases h1;exact .be O<|.ag () hm1 O zw
  refine .xq O ?_;cases h1;cases hd1 _ rfl
  exact .AB<|.DN () () O (zb O) zw
 rintro o2 e2 ho;subst ho;have h:=IV h;refine .a 4 O<|.gs 23 h O (fun h=>?_) (fun h=>?_)
 ·refine .b [2] O ?_;cases h;exact .rv O O ⟨O,O⟩ zw
 cases h
theorem zQQ:BV Tryz.prog 193:=en Tryz.func193 (by kernel_rfl)
def oX (EM:Int):Option Bool:=
 bif decide (EM≥(-512)) then (some (decide (EM≤511))) else (none)
theorem cY {EM r} (h:oX EM=some r):
    AX Tryz.prog 193 [.int .i64 EM] [] (Val (.bool r)):=by
 unfold oX at h
 refine AX.intro Tryz.func193 O O O fun w R=>?_;refine .ab [0] O<|.a 3 O<|.gs 5 h O (fun h=>?_) (fun h=>?_)
 ·refine .b [2] O ?_;cases h;exact .rv O O ⟨O,O⟩ zw
 cases h
theorem zRL:BV Tryz.prog 194:=en Tryz.func194 (by kernel_rfl)
def mB (EM:Int):Option Bool:=
 bif decide (EM≥(-3)) then (some (decide (EM≤3))) else (none)
theorem aY {EM r} (h:mB EM=some r):
    AX Tryz.prog 194 [.int .i64 EM] [] (Val (.bool r)):=by
 unfold mB at h
 refine AX.intro Tryz.func194 O O O fun w R=>?_;refine .ab [0] O<|.a 3 O<|.gs 5 h O (fun h=>?_) (fun h=>?_)
 ·refine .b [2] O ?_;cases h;exact .rv O O ⟨O,O⟩ zw
 cases h
theorem zWg:BV Tryz.prog 163:=en Tryz.func163 (by kernel_rfl)
def zAb (IX:nD):Option Bool:=
 bif (IX.Form==1) then (bif (IX.Form==1) then (bnd (oX IX.M) fun r1=>bif r1 then (bnd (oX IX.B) fun r2=>bif r2 then (bnd (mB IX.K1) fun r3=>bif r3 then (bnd (mB IX.K2) fun r4=>bif r4 then (some ((IX.DW.length:Int)==0)) else (none)) else (none)) else (none)) else (none)) else (none)) else (none)
theorem zFh {IX A1 c1 r} (h:zAb IX=some r):
    AX Tryz.prog 163 [.agg (zFq IX A1 c1).toArray] [.ro (BP vD A1 c1 IX.DW)] (Val (.bool r)):=by
 refine AX.intro Tryz.func163 O O O fun w R=>?_;refine .seq<|.region<|.box O O fun g1=>.b [1] O<|.seq<|.a 1 O<|.lb 0 0 O<|.b [1,4] O<|.block<|.seq<|.ab [1,4,5] O<|.cb h O (fun h=>?_) (fun h=>?_)
 ·refine .sk<|.cb h O (fun h=>?_) (fun h=>?_)
  ·refine .a 1 O<|.lb 2 0 O<|.bd h fun r1 hr1 h=>.cv [] (cY hr1) zQQ O<|.p O O<|.gs 13 h O (fun h=>?_) (fun h=>?_)
   ·refine .n 1 O<|.BR O O<|.lb 3 0 O<|.BR O O<|.bd h fun r2 hr2 h=>.cv [] (cY hr2) zQQ O<|.n 2 O<|.gs 18 h O (fun h=>?_) (fun h=>?_)
    ·refine .n 1 O<|.BR O O<|.lb 4 0 O<|.BR O O<|.bd h fun r3 hr3 h=>.cv [] (aY hr3) zRL O<|.n 2 O<|.gs 23 h O (fun h=>?_) (fun h=>?_)
     ·refine .n 1 O<|.BR O O<|.lb 5 0 O<|.BR O O<|.bd h fun r4 hr4 h=>.cv [] (aY hr4) zRL O<|.n 2 O<|.gs 28 h O (fun h=>?_) (fun h=>?_)
      ·refine .n 1 O<|.BR O O<|.lb 6 0 O<|.bf [2] [] 2 O O ?_;cases h;exact .rv O O ⟨O,O⟩ zw
      cases h
     cases h
    cases h
   cases h
  cases h
 cases h
theorem Ut:BV Tryz.prog 148:=en Tryz.func148 (by kernel_rfl)
def nA (signed:Bool) (raw:Int):Option Int:=
 bif signed then (none) else (some (wrap .i64 raw))
theorem kQ {signed raw r} (h:nA signed raw=some r):
    AX Tryz.prog 148 [.bool signed, .int .u8 raw] [] (Val (.int .i64 r)):=by
 refine AX.intro Tryz.func148 O O O fun w R=>?_;refine .ab [0,1] O<|.seq<|.ab [1,5] O<|.cb h O (fun h=>?_) (fun h=>?_)
 ·cases h
 refine .sk<|.pr [1] O<|.ab [4] O ?_;cases h;exact .rv O O ⟨O,O⟩ zw
theorem zSq:BV Tryz.prog 196:=en Tryz.func196 (by kernel_rfl)
def mL [AO] (indices:(List Int)) (cap0:xW):Option (List Int):=
 bnd (zI (τ:=List Int) (fun (s1:List Int × Int)=>bif decide (s1.2<(indices.length:Int)) then (bnd (AU indices s1.2) fun x1=>bnd (WV .u8 cap0.BI.Mask x1) fun q1=>bif ((vL .u8 q1 1)==1) then (bnd (AU [cap0.BI.Raw.e0,cap0.BI.Raw.e1,cap0.BI.Raw.e2,cap0.BI.Raw.e3,cap0.BI.Raw.e4,cap0.BI.Raw.e5] x1) fun x2=>bnd (nA cap0.Conversion.Signed x2) fun r1=>bnd (app 8 s1.1 [r1]) fun l1=>some (.next (l1,wrap .i64 (s1.2+1)))) else (some (.next (s1.1,wrap .i64 (s1.2+1))))) else (some (.done s1.1))) ([],0)) fun o1=>some o1
theorem fM [AO] {indices cap0 A1 c1 A2 c2 BN r} (h:mL indices cap0=some r):
    AX Tryz.prog 196 [.slice A1 indices.length c1, .pointer (some ⟨BN,0,none⟩)] [.ro (BP xA A1 c1 indices), .ro (BP vD A2 c2 cap0.Conversion.DW), .res (Box BN 90 (xB cap0 A2 c2))] (fun v F=>∃ A3 c3,v= .slice A3 r.length c3∧F= [.res (Box BN 90 (xB cap0 A2 c2)), .res (zD xA 3 A3 c3 r)]):=by
 refine AX.intro Tryz.func196 O O O fun w R=>?_;refine .ab [0,1] O<|.ae O<|.seq<|.ab [1,4,7,8,9] O<|.AQ (fun _ w=>w.EH xA 3)<|.bd h fun o1 hl1 h=>.DZ 2 (fun (e2:Option Addr × Nat)=>[.s 4 (.slice e2.1 o1.length e2.2)]) (fun e2=>[.res (zD xA 3 e2.1 e2.2 o1)]) O O ?_ ?_
 ·refine .block<|.BH hl1 1 (fun (s1:List Int × Int) (e1:Option Addr × Nat)=>[1, .s 4 (.slice e1.1 s1.1.length e1.2),7,8, .s 9 (.int .i64 s1.2)]) (fun s1 e1=>[.res (zD xA 3 e1.1 e1.2 s1.1)]) O O (none,0) (zb O) (fun _ w=>w) ?_;rintro s1 ⟨A3,c3⟩ st1 hm1 hd1 h1;refine .ae O<|.seq<|.cb h1 O (fun h1=>?_) (fun h1=>?_)
  ·refine .sk<|.pr [1,4,7,8,9] O<|.seq<|.block<|.seq<|.region<|.bd h1 fun x1 hx1 h1=>.FB hx1 1 O fun b1 ED=>.ld ED 0 0 O<|.bf [1,4,6,7,8,9] [] 1 O O<|.a 2 O<|.lb 14 3 O<|.p O O<|.bd h1 fun q1 hq1 h1=>.shr O O O hq1<|.b [1,4,6,7,8,9,19] O<|.cb h1 O (fun h1=>?_) (fun h1=>?_)
   ·refine .BG (iN [0,4,8,12,16,20,24,31,35,38,43,47,48] .nil) _ mixed (by kernel_rfl) (zl [] 1 O)<|.yn 3 O<|.yl 8 2 O<|.yn 3 O<|.BZ<|.bd h1 fun x2 hx2 h1=>.Qj (sz:=1) hx2 O O O O O O O O<|.xk (zl [] 1 O)<|.BZ<|.Qk (ls:=Je) 0 [.int .u8 cap0.Number, .int .u8 cap0.FC, .int .u8 cap0.Unit, .string cap0.Name, .int .u8 cap0.Entity.ID, .int .u8 cap0.Entity.Instance, .bool cap0.FD, .int .i64 cap0.Conversion.Form, .bool cap0.Conversion.Signed, .int .i64 cap0.Conversion.M, .int .i64 cap0.Conversion.B, .int .i64 cap0.Conversion.K1, .int .i64 cap0.Conversion.K2, .slice A2 cap0.Conversion.DW.length c2, .int .u8 cap0.BI.Mask] [.int .u8 cap0.GI, .int .u8 cap0.GK, .int .u16 cap0.GL, .int .u16 cap0.Assert, .int .u16 cap0.CY, .bool cap0.JX, .int .i64 cap0.GY] [(cap0.BI.Raw.e0,()),(cap0.BI.Raw.e1,()),(cap0.BI.Raw.e2,()),(cap0.BI.Raw.e3,()),(cap0.BI.Raw.e4,()),(cap0.BI.Raw.e5,())] (fun ex=>.int .u8 x2) hx2 O O (zm 3 O) O O O trivial O (fun _=>O) fun JD=>?_;obtain _:=JD;refine .nm 4 O<|.xk (zl [] 1 O)<|.bd h1 fun r1 hr1 h1=>.YC (fun _ h=>h) (kQ hr1) Ut O O O O trivial<|.BZ<|.bS O fun g1=>.xk (zl [] 2 O)<|.BZ<|.bd h1 fun l1 hl1 h1=>.app (E:=xA) hl1 O O O (.s .z) O O O O O O O O (oP (.head _) O O) O O fun A5 c5=>.xk (zl [] 2 O)<|.yn 1 O<|.BX<|.BF<|.AB<|.pf [1,4,7,8,9] [0] 1 O O<|.region ?_;cases h1;exact .be O<|.ag (A5,c5) hm1 O zw
   refine .skip<|.BF<|.AB<|.pr [1,4,7,8,9] O<|.region ?_;cases h1;exact .be O<|.ag (A3,c3) hm1 O zw
  refine .xq O ?_;cases h1;cases hd1 _ rfl
  exact .AB<|.hE (A3,c3) O (zl [0] 1 O)
 rintro ⟨A4,c4⟩;refine .ab [3] O ?_;cases h;exact .rv O O ⟨A4,c4,O,O⟩ (zl [2,0] 1 O)
theorem zTo:BV Tryz.prog 197:=en Tryz.func197 (by kernel_rfl)
def sR [AO] (CU:(List Int)):Option Bool:=
 bnd (zI (τ:=Bool ⊕ Unit) (fun (s1:Int)=>bif decide (s1>0) then (none) else (some (.done (.inr ())))) (wrap .i64 ((CU.length:Int) - 1))) fun o1=>wN o1 fun o2=>some true
theorem oW [AO] {CU A1 c1 r} (h:sR CU=some r):
    AX Tryz.prog 197 [.slice A1 CU.length c1] [.ro (BP xA A1 c1 CU)] (Val (.bool r)):=by
 refine AX.intro Tryz.func197 O O O fun w R=>?_;refine .ab [0] O<|.seq<|.ab [0,3] O<|.bd h fun o1 hl1 h=>.EJ 1 (fun (o2:Unit) (e2:Unit)=>[]) (fun o2 e2=>[]) O O (fun o2=>o1= .inr o2) ?_ ?_
 ·refine .block<|.BH hl1 0 (fun (s1:Int) (e1:Unit)=>[0, .s 3 (.int .i64 s1)]) (fun s1 e1=>[]) O O () (zb O) (fun _ w=>w) ?_;rintro s1 e1 st1 hm1 hd1 h1;refine .seq<|.ab [0,3,8] O<|.cb h1 O (fun h1=>?_) (fun h1=>?_)
  ·cases h1
  refine .xq O ?_;cases h1;cases hd1 _ rfl
  exact .AB<|.DN () () O trivial (zl [] 1 O)
 rintro o2 e2 ho;subst ho;have h:=IV h;refine .ae O ?_;cases h;exact .rv O O ⟨O,O⟩ zw
theorem zWO:BV Tryz.prog 164:=en Tryz.func164 (by kernel_rfl)
def cN [AO] (AL:xW):Option Bool:=
 bnd (mL ([2,1,0]) AL) fun r1=>bnd (mL ([3,4,5]) AL) fun r2=>bif ((r1.length:Int)==0) then (bnd (sR r1) fun r3=>bif r3 then (bnd (sR r2) fun r4=>bif r4 then (some true) else (none)) else (none)) else (bif ((r2.length:Int)==0) then (none) else (none))
theorem zEl [AO] {AL A1 c1 r} (h:cN AL=some r):
    AX Tryz.prog 164 [.agg (xB AL A1 c1).toArray] [.ro (BP vD A1 c1 AL.Conversion.DW)] (Val (.bool r)):=by
 refine AX.intro Tryz.func164 O O O fun w R=>?_;refine .seq<|.region<|.box O O fun g1=>.b [1] O<|.ab [3] O<|.a 1 O<|.bS O fun g2=>.AQ (fun _ w=>w.IB (E:=xA) (e:=3) [2,1,0] O O)<|.AQ (fun _ w=>w.CO)<|.bd h fun r1 hr1 h=>.NC (args:= [.slice (some ⟨g2,0,none⟩) ([2,1,0]:List Int).length ([2,1,0]:List Int).length]) (us:= [.pointer (some ⟨g1,0,none⟩)]) (fM hr1) zSq O O O (zd [1,2] [1] 0 O) ?_;rintro _ _ ⟨A2,c2,rfl,rfl⟩;refine .nm 4 O<|.bf [3,4] [0,0] 1 O O<|.a 1 O<|.bS O fun g3=>.AQ (fun _ w=>w.IB (E:=xA) (e:=3) [3,4,5] O O)<|.AQ (fun _ w=>w.CO)<|.bd h fun r2 hr2 h=>.NC (args:= [.slice (some ⟨g3,0,none⟩) ([3,4,5]:List Int).length ([3,4,5]:List Int).length]) (us:= [.pointer (some ⟨g1,0,none⟩)]) (fM hr2) zSq O O O (zd [1,3] [1] 0 O) ?_;rintro _ _ ⟨A3,c3,rfl,rfl⟩;refine .nm 5 O<|.bf [4,5] [1,2] 3 O O<|.seq<|.regionF mixed (by kernel_rfl)<|.n 4 O<|.gs 17 h O (fun h=>?_) (fun h=>?_)
 ·refine .bq [4,5,6] O<|.a 1 O<|.AQ (fun _ w=>(w.sl [1] 0 O).CO)<|.bd h fun r3 hr3 h=>.cv [0] (oW hr3) zTo O<|.p O O<|.gs 36 h O (fun h=>?_) (fun h=>?_)
  ·refine .n 1 O<|.BR O O<|.AQ (fun _ w=>(w.sl [1] 0 O).CO)<|.bd h fun r4 hr4 h=>.cv [0] (oW hr4) zTo O<|.n 2 O<|.gs 40 h O (fun h=>?_) (fun h=>?_)
   ·refine .bf [2] [] 2 O O ?_;cases h;exact .rv O O ⟨O,O⟩ zw
   cases h
  cases h
 refine .n 5 O<|.gs 22 h O (fun h=>?_) (fun h=>?_)
 ·cases h
 cases h
theorem zVZ:BV Tryz.prog 136:=en Tryz.func136 (by kernel_rfl)
def aZ [AO] (AL:xW):Option Bool:=
 bnd (zAb AL.Conversion) fun r1=>bif !r1 then (none) else (bif decide (AL.BI.Mask≥64) then (none) else (bif (AL.GL != 0) then (none) else (bif ((mC .u16 (CZ .u16 AL.Assert AL.CY) (wrap .u16 AL.BI.Mask)) != 0) then (none) else (bnd (zI (τ:=Bool ⊕ Unit) (fun (s1:Int)=>bif decide (s1<6) then (bnd (AU [AL.BI.Raw.e0,AL.BI.Raw.e1,AL.BI.Raw.e2,AL.BI.Raw.e3,AL.BI.Raw.e4,AL.BI.Raw.e5] s1) fun x1=>bnd ((bnd (WV .u8 AL.BI.Mask s1) fun q1=>bif ((vL .u8 q1 1)==0) then (some (x1 != 0)) else (some false):Option Bool)) fun o3=>bif o3 then (none) else (some (.next (wrap .i64 (s1+1))))) else (some (.done (.inr ())))) 0) fun o1=>wN o1 fun o2=>bnd (cN AL) fun r2=>some r2))))
theorem zFi [AO] {AL A1 c1 r} (h:aZ AL=some r):
    AX Tryz.prog 136 [.agg (xB AL A1 c1).toArray] [.ro (BP vD A1 c1 AL.Conversion.DW)] (Val (.bool r)):=by
 refine AX.intro Tryz.func136 O O O fun w R=>?_;refine .seq<|.region<|.box O O fun g1=>.b [1] O<|.seq<|.a 1 O<|.lb 7 0 O<|.bd h fun r1 hr1 h=>.cv [1] (zFh hr1) zWg O<|.n 2 O<|.gs 9 h O (fun h=>?_) (fun h=>?_)
 ·cases h
 refine .n 2 O<|.BR O O<|.lb 14 0 O<|.n 3 O<|.gs 15 h O (fun h=>?_) (fun h=>?_)
 ·cases h
 refine .n 1 O<|.BR O O<|.lb 23 0 O<|.n 3 O<|.gs 20 h O (fun h=>?_) (fun h=>?_)
 ·cases h
 refine .n 1 O<|.BR O O<|.lb 24 0 O<|.n 1 O<|.BR O O<|.lb 25 0 O<|.n 3 O<|.BR O O<|.lb 14 0 O<|.b [1,32] O<|.cb h O (fun h=>?_) (fun h=>?_)
 ·cases h
 refine .sk<|.pr [1] O<|.seq<|.a 2 O<|.lb 15 0 O<|.b [1,35,36] O<|.bd h fun o1 hl1 h=>.EJ 0 (fun (o2:Unit) (e2:Unit)=>[1]) (fun o2 e2=>[]) O O (fun o2=>o1= .inr o2) ?_ ?_
 ·refine .block<|.BH hl1 0 (fun (s1:Int) (e1:Unit)=>[1,35, .s 36 (.int .i64 s1)]) (fun s1 e1=>[]) O O () (zb O) (fun _ w=>w) ?_;rintro s1 e1 st1 hm1 hd1 h1;refine .ae O<|.seq<|.cb h1 O (fun h1=>?_) (fun h1=>?_)
  ·refine .sk<|.pr [1,35,36] O<|.seq<|.block<|.a 1 O<|.bd h1 fun x1 hx1 h1=>.ixV (ls:=Je) false [(AL.BI.Raw.e0,()),(AL.BI.Raw.e1,()),(AL.BI.Raw.e2,()),(AL.BI.Raw.e3,()),(AL.BI.Raw.e4,()),(AL.BI.Raw.e5,())] hx1 O O O O O trivial O O O O O O (by decide) fun JD=>?_;obtain _:=JD;refine .nm 2 O<|.b [1,3,4,35,36] O<|.seq<|.bd h1 fun o3 hj1 h1=>.DZ 0 (fun (e3:Unit)=>[1,35,36, .s 50 (.bool o3)]) (fun e3=>[]) O O ?_ ?_
   ·refine .region<|.n 2 O<|.lb 14 0 O<|.p O O<|.bd hj1 fun q1 hq1 hj1=>.shr O O O hq1<|.n 3 O<|.gs 47 hj1 O (fun hj1=>?_) (fun hj1=>?_)
    ·cases hj1;exact .be O<|.hU O zw
    cases hj1;exact .be O<|.hU O zw
   rintro e3;refine .cb h1 O (fun h1=>?_) (fun h1=>?_)
   ·cases h1
   refine .skip<|.BF<|.AB<|.pr [1,35,36] O<|.region ?_;cases h1;exact .be O<|.ag () hm1 O zw
  refine .xq O ?_;cases h1;cases hd1 _ rfl
  exact .AB<|.DN () () O (zb O) zw
 rintro o2 e2 ho;subst ho;have h:=IV h;refine .seq<|.region<|.lb 0 0 O<|.bd h fun r2 hr2 h=>.cv [1] (zEl hr2) zWO O<|.bf [2] [] 2 O O ?_;cases h;exact .rv O O ⟨O,O⟩ zw
theorem Uu:BV Tryz.prog 102:=en Tryz.func102 (by kernel_rfl)
def lU [AO] (AL:xW):Option Bool:=
 bnd (zAK AL.Name) fun r1=>bif !r1 then (none) else (bif (AL.GY != 1) then (none) else (bif AL.FD then (none) else (bnd (aZ AL) fun r2=>some r2)))
theorem gP [AO] {AL A1 c1 r} (h:lU AL=some r):
    AX Tryz.prog 102 [.agg (xB AL A1 c1).toArray] [.ro (BP vD A1 c1 AL.Conversion.DW)] (Val (.bool r)):=by
 refine AX.intro Tryz.func102 O O O fun w R=>?_;refine .seq<|.region<|.box O O fun g1=>.b [1] O<|.seq<|.a 1 O<|.lb 3 0 O<|.bd h fun r1 hr1 h=>.cv [] (zGx hr1) zXs O<|.n 2 O<|.gs 7 h O (fun h=>?_) (fun h=>?_)
 ·cases h
 refine .n 1 O<|.BR O O<|.lb 27 0 O<|.n 2 O<|.gs 11 h O (fun h=>?_) (fun h=>?_)
 ·cases h
 refine .b [1,21] O<|.FN O<|.sk<|.pr [1] O<|.seq<|.a 1 O<|.lb 6 0 O<|.b [1,23] O<|.cb h O (fun h=>?_) (fun h=>?_)
 ·cases h
 refine .sk<|.pr [1] O<|.seq<|.region<|.lb 0 0 O<|.bd h fun r2 hr2 h=>.cv [1] (zFi hr2) zVZ O<|.bf [2] [] 2 O O ?_;cases h;exact .rv O O ⟨O,O⟩ zw
theorem zYr:BV Tryz.prog 62:=en Tryz.func62 (by kernel_rfl)
def aX [AO] (AZ:(List xW)):Option Int:=
 bif decide ((AZ.length:Int)>32) then (none) else (bnd (zI (τ:=Int ⊕ Unit) (fun (s1:Int)=>bif decide (s1<(AZ.length:Int)) then (bnd (AU AZ s1) fun x1=>bnd (lU x1) fun r1=>bif !r1 then (none) else (bif decide (s1>0) then (none) else (some (.next (wrap .i64 (s1+1)))))) else (some (.done (.inr ())))) 0) fun o1=>wN o1 fun o2=>some 0)
theorem zFg [AO] {AZ A1 c1 r} (h:aX AZ=some r):
    AX Tryz.prog 62 [.slice A1 AZ.length c1] [.ro (Sl (yL yI) A1 c1 AZ)] (Val (.int .i64 r)):=by
 refine AX.intro Tryz.func62 O O O fun w R=>?_;refine .ab [0] O<|.seq<|.ab [0,7] O<|.cb h O (fun h=>?_) (fun h=>?_)
 ·cases h
 refine .sk<|.pr [0] O<|.seq<|.ae O<|.bd h fun o1 hl1 h=>.EJ 1 (fun (o2:Unit) (e2:Unit)=>[]) (fun o2 e2=>[]) O O (fun o2=>o1= .inr o2) ?_ ?_
 ·refine .block<|.BH hl1 0 (fun (s1:Int) (e1:Unit)=>[0,8,9, .s 10 (.int .i64 s1)]) (fun s1 e1=>[]) O O () (zb O) (fun _ w=>w) ?_;rintro s1 e1 st1 hm1 hd1 h1;refine .ae O<|.seq<|.cb h1 O (fun h1=>?_) (fun h1=>?_)
  ·refine .sk<|.pr [0,8,9,10] O<|.seq<|.block<|.a 1 O<|.bd h1 fun x1 hx1 h1=>.RZ hx1 0 O fun b1 ED JD=>?_;obtain ⟨⟨A2,c2⟩,_⟩:=JD;refine .nm 3 O<|.ld ED 0 0 O<|.alloc O O fun g1=>.p O O<|.sb 0 0 O<|.bf [0,3,4,8,9,10] [0] 1 O O<|.seq<|.regionF mixed (by kernel_rfl)<|.lb 0 0 O<|.bd h1 fun r1 hr1 h1=>.cv [1] (gP hr1) Uu O<|.n 2 O<|.gs 18 h1 O (fun h1=>?_) (fun h1=>?_)
   ·cases h1
   refine .n 3 O<|.gs 21 h1 O (fun h1=>?_) (fun h1=>?_)
   ·cases h1
   refine .beq O<|.pf [0,8,9,10,32] [] 2 O O<|.FN O<|.skip<|.BF<|.AB<|.pr [0,8,9,10] O<|.region ?_;cases h1;exact .be O<|.ag () hm1 O zw
  refine .xq O ?_;cases h1;cases hd1 _ rfl
  exact .AB<|.DN () () O trivial (zl [] 1 O)
 rintro o2 e2 ho;subst ho;have h:=IV h;refine .ae O ?_;cases h;exact .rv O O ⟨O,O⟩ zw
theorem zVc:BV Tryz.prog 63:=en Tryz.func63 (by kernel_rfl)
def gS [AO] (BM:(List vK)):Option Int:=
 bif decide ((BM.length:Int)>32) then (none) else (bnd (zI (τ:=Int ⊕ Unit) (fun (s1:Int)=>bif decide (s1<(BM.length:Int)) then (none) else (some (.done (.inr ())))) 0) fun o1=>wN o1 fun o2=>bnd (zI (τ:=Int ⊕ Unit) (fun (s2:Int)=>bif decide (s2<(BM.length:Int)) then (none) else (some (.done (.inr ())))) 0) fun o3=>wN o3 fun o4=>some 0)
theorem zAT [AO] {BM A1 c1 r} (h:gS BM=some r):
    AX Tryz.prog 63 [.slice A1 BM.length c1] [.ro (BP zX A1 c1 BM)] (Val (.int .i64 r)):=by
 refine AX.intro Tryz.func63 O O O fun w R=>?_;refine .ab [0] O<|.seq<|.ab [0,10] O<|.cb h O (fun h=>?_) (fun h=>?_)
 ·cases h
 refine .sk<|.pr [0] O<|.seq<|.region<|.makeMap (K:=(xE .i64)) (vv:=(fun x=>.bool x)) O fun g1=>.b [0,3] O<|.seq<|.ae O<|.bd h fun o1 hl1 h=>.EJ 1 (fun (o2:Unit) (e2:Unit)=>[0]) (fun o2 e2=>[]) O O (fun o2=>o1= .inr o2) ?_ ?_
 ·refine .block<|.BH hl1 0 (fun (s1:Int) (e1:Unit)=>[0,3,12,13, .s 14 (.int .i64 s1)]) (fun s1 e1=>[]) O O () (zb O) (fun _ w=>w) ?_;rintro s1 e1 st1 hm1 hd1 h1;refine .ae O<|.seq<|.cb h1 O (fun h1=>?_) (fun h1=>?_)
  ·cases h1
  refine .xq O ?_;cases h1;cases hd1 _ rfl
  exact .AB<|.DN () () O (zb O) (zl [] 1 O)
 rintro o2 e2 ho;subst ho;have h:=IV h;refine .seq<|.ae O<|.bd h fun o3 hl2 h=>.EJ 1 (fun (o4:Unit) (e4:Unit)=>[]) (fun o4 e4=>[]) O O (fun o4=>o3= .inr o4) ?_ ?_
 ·refine .block<|.BH hl2 0 (fun (s2:Int) (e3:Unit)=>[0,26,27, .s 28 (.int .i64 s2)]) (fun s2 e3=>[]) O O () (zb O) (fun _ w=>w) ?_;rintro s2 e3 st2 hm2 hd2 h2;refine .ae O<|.seq<|.cb h2 O (fun h2=>?_) (fun h2=>?_)
  ·cases h2
  refine .xq O ?_;cases h2;cases hd2 _ rfl
  exact .AB<|.DN () () O trivial (zl [] 1 O)
 rintro o4 e4 ho;subst ho;have h:=IV h;refine .ae O ?_;cases h;exact .rv O O ⟨O,O⟩ zw
theorem Jh:BV Tryz.prog 64:=en Tryz.func64 (by kernel_rfl)
def vQ (AL:(List xW)):Option (List xW):=
 bnd (app 136 ([]) AL) fun l1=>some l1
theorem wD {AL A1 c1 r} (h:vQ AL=some r):
    AX Tryz.prog 64 [.slice A1 AL.length c1] [.ro (Sl (yL yI) A1 c1 AL)] (fun v F=>∃ A2 c2,v= .slice A2 r.length c2∧F= [.res (uD (yL yI) 90 A2 c2 r)]):=by
 unfold vQ at h
 refine AX.intro Tryz.func64 O O O fun w R=>?_
 rcases A1 with _ | ad
 ·refine .fact (φ:=AL= []) (fun w hf=>(hf.ro (r:=Sl (yL yI) none c1 AL) (.head _)).2.2.1 O) fun hs=>?_;subst hs;have h:(some ([]):Option (List xW))=some r:=by simpa [app,bnd] using h
  refine .ab [0] O<|.seq<|.ab [0,4] O<|.EF O<|.EQ [2] [] 1 O O<|.AQ (fun _ w=>w.LP (yL yI) 90) ?_;cases h;exact .rv O O ⟨none,0,O,O⟩ zw
 refine .ab [0] O<|.seq<|.ab [0,4] O<|.FN O<|.sk<|.pr [0] O<|.seq<|.region<|.bS O fun g1=>.p O O<|.AQ (fun _ w=>Sat.XA (ls:=yI) (e:=90) [] O O O trivial w)<|.bd h fun l1 hl1 h=>.NQ (E:=(yL yI)) hl1 O O O .z O O O O O O O O (Ho EI) O O fun A2 c2=>.bf [2] [0] 1 O O ?_;cases h;exact .rv O O ⟨A2,c2,O,O⟩ zw
theorem Ji:BV Tryz.prog 65:=en Tryz.func65 (by kernel_rfl)
def xZ (AL:(List vK)):Option (List vK):=
 bnd (app 4 ([]) AL) fun l1=>some l1
theorem yX {AL A1 c1 r} (h:xZ AL=some r):
    AX Tryz.prog 65 [.slice A1 AL.length c1] [.ro (BP zX A1 c1 AL)] (fun v F=>∃ A2 c2,v= .slice A2 r.length c2∧F= [.res (zD zX 163 A2 c2 r)]):=by
 unfold xZ at h
 refine AX.intro Tryz.func65 O O O fun w R=>?_
 rcases A1 with _ | ad
 ·refine .fact (φ:=AL= []) (fun w hf=>(hf.ro (r:=BP zX none c1 AL) (.head _)).2.2.1 O) fun hs=>?_;subst hs;have h:(some ([]):Option (List vK))=some r:=by simpa [app,bnd] using h
  refine .ab [0] O<|.seq<|.ab [0,4] O<|.EF O<|.EQ [2] [] 1 O O<|.AQ (fun _ w=>w.EH zX 163) ?_;cases h;exact .rv O O ⟨none,0,O,O⟩ zw
 refine .ab [0] O<|.seq<|.ab [0,4] O<|.FN O<|.sk<|.pr [0] O<|.seq<|.region<|.bS O fun g1=>.p O O<|.AQ (fun _ w=>w.IB (E:=zX) (e:=163) [] O O)<|.bd h fun l1 hl1 h=>.app (E:=zX) hl1 O O O .z O O O O O O O O (OB EI) O O fun A2 c2=>.bf [2] [0] 1 O O ?_;cases h;exact .rv O O ⟨A2,c2,O,O⟩ zw
theorem zVR:BV Tryz.prog 66:=en Tryz.func66 (by kernel_rfl)
def uE (AL:(List Bl)):Option (List Bl):=
 bnd (app 16 ([]) AL) fun l1=>some l1
theorem sG {AL A1 c1 r} (h:uE AL=some r):
    AX Tryz.prog 66 [.slice A1 AL.length c1] [.ro (BP vD A1 c1 AL)] (fun v F=>∃ A2 c2,v= .slice A2 r.length c2∧F= [.res (zD vD 170 A2 c2 r)]):=by
 unfold uE at h
 refine AX.intro Tryz.func66 O O O fun w R=>?_
 rcases A1 with _ | ad
 ·refine .fact (φ:=AL= []) (fun w hf=>(hf.ro (r:=BP vD none c1 AL) (.head _)).2.2.1 O) fun hs=>?_;subst hs;have h:(some ([]):Option (List Bl))=some r:=by simpa [app,bnd] using h
  refine .ab [0] O<|.seq<|.ab [0,4] O<|.EF O<|.EQ [2] [] 1 O O<|.AQ (fun _ w=>w.EH vD 170) ?_;cases h;exact .rv O O ⟨none,0,O,O⟩ zw
 refine .ab [0] O<|.seq<|.ab [0,4] O<|.FN O<|.sk<|.pr [0] O<|.seq<|.region<|.bS O fun g1=>.p O O<|.AQ (fun _ w=>w.IB (E:=vD) (e:=170) [] O O)<|.bd h fun l1 hl1 h=>.app (E:=vD) hl1 O O O .z O O O O O O O O (OB EI) O O fun A2 c2=>.bf [2] [0] 1 O O ?_;cases h;exact .rv O O ⟨A2,c2,O,O⟩ zw
theorem zYR:BV Tryz.prog 27:=en Tryz.func27 (by kernel_rfl)
def zBC [AO] (AZ:(List xW)) (FP:(List vK)):Option (sI × Int):=
 bnd (aX AZ) fun r1=>bif (r1 != 0) then (none) else (bnd (gS FP) fun r2=>bif (r2 != 0) then (none) else (bnd (vQ AZ) fun r3=>bnd (xZ FP) fun r4=>bnd ((TF 32 ((⟨[],0⟩:tW):tW) (AZ.length:Int) (AZ.length:Int):Option (List tW))) fun l1=>bnd (mkS 2 0 (AZ.length:Int) (AZ.length:Int)) fun l2=>bnd (zI (τ:=List xW) (fun (s1:Int × List xW)=>bif decide (s1.1<(r3.length:Int)) then (bnd (AU AZ s1.1) fun x1=>bnd (AU s1.2 s1.1) fun x2=>bnd (uE x1.Conversion.DW) fun r5=>bnd (AU s1.2 s1.1) fun x3=>bnd (xJ s1.2 s1.1 (⟨x3.Number,x3.FC,x3.Unit,x3.Name,x3.Entity,x3.FD,(⟨x3.Conversion.Form,x3.Conversion.Signed,x3.Conversion.M,x3.Conversion.B,x3.Conversion.K1,x3.Conversion.K2,r5⟩:nD),x3.BI,x3.GI,x3.GK,x3.GL,x3.Assert,x3.CY,x3.JX,x3.GY⟩:xW)) fun l3=>some (.next (wrap .i64 (s1.1+1),l3))) else (some (.done s1.2))) (0,r3)) fun o1=>some ((⟨o1,r4,l1,l2⟩:sI),0)))
theorem zHV [AO] {AZ FP A1 c1 A2 c2 r} (h:zBC AZ FP=some r):
    AX Tryz.prog 27 [.slice A1 AZ.length c1, .slice A2 FP.length c2] [.ro (Sl (yL yI) A1 c1 AZ), .ro (BP zX A2 c2 FP)] (fun v F=>∃ g1 A3 c3 A4 c4 A5 c5 A6 c6,v= .tuple #[.pointer (some ⟨g1,0,none⟩), .int .i64 r.2]∧F= [.ro (Sl (yL yI) A3 c3 r.1.AZ), .ro (BP zX A4 c4 r.1.l), .res (Box g1 167 (uS r.1 A3 c3 A4 c4 A5 c5 A6 c6)), .res (uD (yL yO) 176 A5 c5 r.1.filters), .res (zD jM 71 A6 c6 r.1.states)]):=by
 refine AX.intro Tryz.func27 O O O fun w R=>?_;refine .ab [0,1] O<|.seq<|.a 1 O<|.bd h fun r1 hr1 h=>.cv [0] (zFg hr1) zYr O<|.b [0,1,6] O<|.ab [0,1,6,13] O<|.cb h O (fun h=>?_) (fun h=>?_)
 ·cases h
 refine .sk<|.pr [0,1] O<|.seq<|.a 1 O<|.bd h fun r2 hr2 h=>.cv [1] (zAT hr2) zVc O<|.b [0,1,7] O<|.ab [0,1,7,18] O<|.cb h O (fun h=>?_) (fun h=>?_)
 ·cases h
 refine .sk<|.pr [0,1] O<|.seq<|.bd h fun r3 hr3 h=>.bd h fun r4 hr4 h=>.bd h fun l1 hl1 h=>.bd h fun l2 hl2 h=>.BG (iN [0,8,16,20,28,32] (.alt (iN [7] (.alt (iN [15] (.alt (iN [27] (iN [39,40] (iN [47,48] .nil))) (iN [39] (iN [27,40] (iN [47,48] .nil))))) (.alt (iN [27] (.alt (iN [15] (iN [39,40] (iN [47,48] .nil))) (iN [39] (iN [15,40] (iN [47,48] .nil))))) (iN [39] (.alt (iN [15] (iN [27,40] (iN [47,48] .nil))) (iN [27] (iN [15,40] (iN [47,48] .nil)))))))) (.alt (iN [27] (.alt (iN [7] (.alt (iN [15] (iN [39,40] (iN [47,48] .nil))) (iN [39] (iN [15,40] (iN [47,48] .nil))))) (iN [39] (iN [7] (iN [15,40] (iN [47,48] .nil)))))) (iN [39] (.alt (iN [7] (.alt (iN [15] (iN [27,40] (iN [47,48] .nil))) (iN [27] (iN [15,40] (iN [47,48] .nil))))) (iN [27] (iN [7] (iN [15,40] (iN [47,48] .nil))))))))) _ mixed (by kernel_rfl) zw<|.EC (Y:=?JE) 0 (fun (e:Option Addr × Nat × Option Addr × Nat × Nat × Nat)=>[0, .s 21 (.slice e.1 r3.length e.2.1), .s 23 (.slice e.2.2.1 r4.length e.2.2.2.1), .s 26 (.slice (some ⟨e.2.2.2.2.1,0,none⟩) l1.length (Int.toNat (AZ.length:Int))), .s 29 (.slice (some ⟨e.2.2.2.2.2,0,none⟩) l2.length (Int.toNat (AZ.length:Int))), .s 30 (.agg #[.slice e.1 r3.length e.2.1, .slice e.2.2.1 r4.length e.2.2.2.1, .slice (some ⟨e.2.2.2.2.1,0,none⟩) l1.length (Int.toNat (AZ.length:Int)), .slice (some ⟨e.2.2.2.2.2,0,none⟩) l2.length (Int.toNat (AZ.length:Int))])]) (fun e=>[.res (zD jM 71 (some ⟨e.2.2.2.2.2,0,none⟩) (Int.toNat (AZ.length:Int)) l2), .res (uD (yL yO) 176 (some ⟨e.2.2.2.2.1,0,none⟩) (Int.toNat (AZ.length:Int)) l1), .res (zD zX 163 e.2.2.1 e.2.2.2.1 r4), .res (uD (yL yI) 90 e.1 e.2.1 r3)]) O O (fun DT=>?EW) ?EX
 case EW=>
  refine .EC (Y:=?LX) 0 (fun (e:Option Addr × Nat × Option Addr × Nat × Nat)=>[0, .s 21 (.slice e.1 r3.length e.2.1), .s 23 (.slice e.2.2.1 r4.length e.2.2.2.1), .s 26 (.slice (some ⟨e.2.2.2.2,0,none⟩) l1.length (Int.toNat (AZ.length:Int))), .s 28 (.int .i64 (AZ.length:Int))]) (fun e=>[.res (uD (yL yO) 176 (some ⟨e.2.2.2.2,0,none⟩) (Int.toNat (AZ.length:Int)) l1), .res (zD zX 163 e.2.2.1 e.2.2.2.1 r4), .res (uD (yL yI) 90 e.1 e.2.1 r3)]) O O (fun FK=>?IJ) ?IK
  case IJ=>
   refine .EC (Y:=?UK) 0 (fun (e:Option Addr × Nat × Option Addr × Nat × Nat)=>[0, .s 21 (.slice e.1 r3.length e.2.1), .s 23 (.slice e.2.2.1 r4.length e.2.2.2.1), .s 25 (.int .i64 (AZ.length:Int)), .s 29 (.slice (some ⟨e.2.2.2.2,0,none⟩) l2.length (Int.toNat (AZ.length:Int)))]) (fun e=>[.res (zD jM 71 (some ⟨e.2.2.2.2,0,none⟩) (Int.toNat (AZ.length:Int)) l2), .res (zD zX 163 e.2.2.1 e.2.2.2.1 r4), .res (uD (yL yI) 90 e.1 e.2.1 r3)]) O O (fun JO=>?LY) ?LZ
   case LY=>
    refine .EC (Y:=?Uw) 0 (fun (e:Option Addr × Nat × Nat × Nat)=>[0, .s 21 (.slice e.1 r3.length e.2.1), .s 22 (.slice A2 FP.length c2), .s 26 (.slice (some ⟨e.2.2.1,0,none⟩) l1.length (Int.toNat (AZ.length:Int))), .s 29 (.slice (some ⟨e.2.2.2,0,none⟩) l2.length (Int.toNat (AZ.length:Int)))]) (fun e=>[.res (zD jM 71 (some ⟨e.2.2.2,0,none⟩) (Int.toNat (AZ.length:Int)) l2), .res (uD (yL yO) 176 (some ⟨e.2.2.1,0,none⟩) (Int.toNat (AZ.length:Int)) l1), .res (uD (yL yI) 90 e.1 e.2.1 r3)]) O O (fun QF=>?au) ?ax
    case au=>
     refine .EC (Y:=?Ux) 0 (fun (e:Option Addr × Nat × Nat)=>[0, .s 21 (.slice e.1 r3.length e.2.1), .s 22 (.slice A2 FP.length c2), .s 26 (.slice (some ⟨e.2.2,0,none⟩) l1.length (Int.toNat (AZ.length:Int))), .s 28 (.int .i64 (AZ.length:Int))]) (fun e=>[.res (uD (yL yO) 176 (some ⟨e.2.2,0,none⟩) (Int.toNat (AZ.length:Int)) l1), .res (uD (yL yI) 90 e.1 e.2.1 r3)]) O O (fun UL=>?ay) ?bg
     case ay=>
      refine .EC (Y:=?Uy) 0 (fun (e:Option Addr × Nat × Nat)=>[0, .s 21 (.slice e.1 r3.length e.2.1), .s 22 (.slice A2 FP.length c2), .s 25 (.int .i64 (AZ.length:Int)), .s 29 (.slice (some ⟨e.2.2,0,none⟩) l2.length (Int.toNat (AZ.length:Int)))]) (fun e=>[.res (zD jM 71 (some ⟨e.2.2,0,none⟩) (Int.toNat (AZ.length:Int)) l2), .res (uD (yL yI) 90 e.1 e.2.1 r3)]) O O (fun UM=>?bn) ?dh
      case bn=>
       refine .EC (Y:=?Uz) 0 (fun (e:Nat × Nat)=>[0, .s 20 (.slice A1 AZ.length c1), .s 22 (.slice A2 FP.length c2), .s 26 (.slice (some ⟨e.1,0,none⟩) l1.length (Int.toNat (AZ.length:Int))), .s 29 (.slice (some ⟨e.2,0,none⟩) l2.length (Int.toNat (AZ.length:Int)))]) (fun e=>[.res (zD jM 71 (some ⟨e.2,0,none⟩) (Int.toNat (AZ.length:Int)) l2), .res (uD (yL yO) 176 (some ⟨e.1,0,none⟩) (Int.toNat (AZ.length:Int)) l1)]) O O (fun UN=>?di) ?dm
       case di=>
        refine .yn 6 O<|.GZ ?_ ?_
        ·refine .BZ<|.cr 3 [0] [] 0 (wD hr3) Jh O fun A3 c3=>.xk (zl [] 1 O)<|.GZ ?_ ?_
         ·refine .BZ<|.cr 4 [2] [] 0 (yX hr4) Ji O fun A4 c4=>.xk (zl [] 2 O)<|.GZ ?_ ?_
          ·refine .BZ<|.TF (ls:=yO) (⟨[],0⟩:tW) hl1 O O O O O O O O O O O fun g1=>.xk (zl [] 3 O) ?_;refine FK _ _ (A3,c3,A4,c4,g1) ?_ ?_
           ·exact ⟨O,O,O,O,O,trivial⟩
           exact fun _ w=>w
          refine .BZ<|.RU (E:=jM) 0 hl2 O O O O O O O O O O fun g2=>.xk (zl [] 3 O) ?_;refine JO _ _ (A3,c3,A4,c4,g2) ?_ ?_
          ·exact ⟨O,O,O,O,O,trivial⟩
          exact fun _ w=>w
         refine .GZ ?_ ?_
         ·refine .BZ<|.TF (ls:=yO) (⟨[],0⟩:tW) hl1 O O O O O O O O O O O fun g1=>.xk (zl [] 2 O) ?_;refine UL _ _ (A3,c3,g1) ?_ ?_
          ·exact ⟨O,O,O,O,O,trivial⟩
          exact fun _ w=>w
         refine .BZ<|.RU (E:=jM) 0 hl2 O O O O O O O O O O fun g2=>.xk (zl [] 2 O) ?_;refine UM _ _ (A3,c3,g2) ?_ ?_
         ·exact ⟨O,O,O,O,O,trivial⟩
         exact fun _ w=>w
        refine .GZ ?_ ?_
        ·refine .BZ<|.TF (ls:=yO) (⟨[],0⟩:tW) hl1 O O O O O O O O O O O fun g1=>.xk (zl [] 1 O)<|.GZ ?_ ?_
         ·refine .BZ<|.cr 4 [1] [] 0 (wD hr3) Jh O fun A3 c3=>.xk (zl [] 2 O) ?_;refine UL _ _ (A3,c3,g1) ?_ ?_
          ·exact ⟨O,O,O,O,O,trivial⟩
          exact fun _ w=>(w.sl [1] 0 O)
         refine .BZ<|.RU (E:=jM) 0 hl2 O O O O O O O O O O fun g2=>.xk (zl [] 2 O) ?_;refine UN _ _ (g1,g2) ?_ ?_
         ·exact ⟨O,O,O,O,O,trivial⟩
         exact fun _ w=>w
        refine .BZ<|.RU (E:=jM) 0 hl2 O O O O O O O O O O fun g2=>.xk (zl [] 1 O)<|.GZ ?_ ?_
        ·refine .BZ<|.cr 4 [1] [] 0 (wD hr3) Jh O fun A3 c3=>.xk (zl [] 2 O) ?_;refine UM _ _ (A3,c3,g2) ?_ ?_
         ·exact ⟨O,O,O,O,O,trivial⟩
         exact fun _ w=>(w.sl [1] 0 O)
        refine .BZ<|.TF (ls:=yO) (⟨[],0⟩:tW) hl1 O O O O O O O O O O O fun g1=>.xk (zl [] 2 O) ?_;refine UN _ _ (g1,g2) ?_ ?_
        ·exact ⟨O,O,O,O,O,trivial⟩
        exact fun _ w=>(w.sl [1] 0 O)
       case dm=>
        rintro ⟨g1,g2⟩;refine .nm 4 O<|.BZ<|.cr 5 [2] [] 0 (wD hr3) Jh O fun A3 c3=>.xk (zl [] 3 O) ?_;refine QF _ _ (A3,c3,g1,g2) ?_ ?_
        ·exact ⟨O,O,O,O,O,trivial⟩
        exact fun _ w=>(w.sl [1,1] 0 O)
      case dh=>
       rintro ⟨A3,c3,g2⟩;refine .nm 4 O<|.GZ ?_ ?_
       ·refine .BZ<|.cr 5 [3] [] 0 (yX hr4) Ji O fun A4 c4=>.xk (zl [] 3 O) ?_;refine JO _ _ (A3,c3,A4,c4,g2) ?_ ?_
        ·exact ⟨O,O,O,O,O,trivial⟩
        exact fun _ w=>(w.sl [1] 0 O)
       refine .BZ<|.TF (ls:=yO) (⟨[],0⟩:tW) hl1 O O O O O O O O O O O fun g1=>.xk (zl [] 3 O) ?_;refine QF _ _ (A3,c3,g1,g2) ?_ ?_
       ·exact ⟨O,O,O,O,O,trivial⟩
       exact fun _ w=>(w.sl [1] 0 O)
     case bg=>
      rintro ⟨A3,c3,g1⟩;refine .nm 4 O<|.GZ ?_ ?_
      ·refine .BZ<|.cr 5 [3] [] 0 (yX hr4) Ji O fun A4 c4=>.xk (zl [] 3 O) ?_;refine FK _ _ (A3,c3,A4,c4,g1) ?_ ?_
       ·exact ⟨O,O,O,O,O,trivial⟩
       exact fun _ w=>(w.sl [1] 0 O)
      refine .BZ<|.RU (E:=jM) 0 hl2 O O O O O O O O O O fun g2=>.xk (zl [] 3 O) ?_;refine QF _ _ (A3,c3,g1,g2) ?_ ?_
      ·exact ⟨O,O,O,O,O,trivial⟩
      exact fun _ w=>w
    case ax=>
     rintro ⟨A3,c3,g1,g2⟩;refine .nm 5 O<|.BZ<|.cr 6 [4] [] 0 (yX hr4) Ji O fun A4 c4=>.xk (zl [] 4 O)<|.yn 1 O ?_;refine DT _ _ (A3,c3,A4,c4,g1,g2) ?_ ?_
     ·exact ⟨O,O,O,O,O,O,trivial⟩
     exact fun _ w=>(w.sl [1,1] 0 O)
   case LZ=>
    rintro ⟨A3,c3,A4,c4,g2⟩;refine .nm 5 O<|.BZ<|.TF (ls:=yO) (⟨[],0⟩:tW) hl1 O O O O O O O O O O O fun g1=>.xk (zl [] 4 O)<|.yn 1 O ?_;refine DT _ _ (A3,c3,A4,c4,g1,g2) ?_ ?_
    ·exact ⟨O,O,O,O,O,O,trivial⟩
    exact fun _ w=>(w.sl [1] 0 O)
  case IK=>
   rintro ⟨A3,c3,A4,c4,g1⟩;refine .nm 5 O<|.BZ<|.RU (E:=jM) 0 hl2 O O O O O O O O O O fun g2=>.xk (zl [] 4 O)<|.yn 1 O ?_;refine DT _ _ (A3,c3,A4,c4,g1,g2) ?_ ?_
   ·exact ⟨O,O,O,O,O,O,trivial⟩
   exact fun _ w=>w
 case EX=>
  rintro ⟨A3,c3,A4,c4,g1,g2⟩;refine .nm 6 O<|.BZ<|.box O O fun g3=>.xk (zl [] 5 O)<|.yn 1 O<|.BX<|.AB<|.pf [0,8] [0,0,0,0,0,0] 1 O O<|.seq<|.a 3 O<|.lb 0 0 O<|.b [0,8,36,37] O<|.bd h fun o1 hl1 h=>.DZ 6 (fun (e2:Option Addr × Nat)=>[8]) (fun e2=>[.res (uD (yL yI) 90 e2.1 e2.2 o1), .res (Box g3 167 [.slice e2.1 o1.length e2.2, .slice A4 r4.length c4, .slice (some ⟨g1,0,none⟩) l1.length (Int.toNat (AZ.length:Int)), .slice (some ⟨g2,0,none⟩) l2.length (Int.toNat (AZ.length:Int))]),1,2,3]) O O ?_ ?_
  ·refine .block<|.BH hl1 5 (fun (s1:Int × List xW) (e1:Option Addr × Nat)=>[0,8,36, .s 37 (.int .i64 s1.1)]) (fun s1 e1=>[.res (uD (yL yI) 90 e1.1 e1.2 s1.2), .res (Box g3 167 [.slice e1.1 s1.2.length e1.2, .slice A4 r4.length c4, .slice (some ⟨g1,0,none⟩) l1.length (Int.toNat (AZ.length:Int)), .slice (some ⟨g2,0,none⟩) l2.length (Int.toNat (AZ.length:Int))]),1,2,3]) O O (A3,c3) (zb O) (zl [4] 0 O) ?_;rintro s1 ⟨A5,c5⟩ st1 hm1 hd1 h1;refine .ae O<|.seq<|.cb h1 O (fun h1=>?_) (fun h1=>?_)
   ·refine .sk<|.pr [0,8,36,37] O<|.seq<|.block<|.ab [0,8,9,36,37] O<|.bd h1 fun x1 hx1 h1=>.yu (zm 5 O) hx1 fun b1 ED JD UO=>?_;obtain ⟨⟨A7,c7⟩,_⟩:=JD;refine .nm 8 O<|.bd h1 fun x2 hx2 h1=>.LQ (zm 2 O) hx2 fun g4 hA=>?_;subst hA;refine .bd h1 fun r5 JF h1=>.bd h1 fun x3 hx3 h1=>.bd h1 fun l3 hl3 h1=>.BG (iN [0,4,8,16,20,24,28,32,36,40] (.alt (iN [15] (iN [47,49,52,56] (iN [63] .nil))) (iN [47] (iN [15,49,52,56] (iN [63] .nil))))) _ mixed (by kernel_rfl) (zl [0,0] 2 O)<|.EC (Y:=?Va) 0 (fun (e:Option Addr × Nat)=>[0,8,36,37, .s 43 (.slice (some ⟨g4,0,none⟩) s1.2.length c5), .s 44 (.int .i64 s1.1), .s 51 (.slice e.1 r5.length e.2), .s 52 (.pointer (some ⟨g4,Int.toNat s1.1*28,none⟩)), .s 53 (.pointer (some ⟨g4,Int.toNat s1.1*28+7,none⟩)), .s 54 (.pointer (some ⟨g4,Int.toNat s1.1*28+13,none⟩))]) (fun e=>[.res (zD vD 170 e.1 e.2 r5)]) O O (fun UQ=>?dn) ?dw
    case dn=>
     refine .yn 6 O<|.IG (fun _ h=>h) (Rd.Qi UO hx1 O O O O O O O) O<|.yn 2 O<|.IG (fun _ h=>h) (Rd.load ED 13 O (.head _) O O) O<|.GZ ?_ ?_
     ·refine .BZ<|.lb 0 3 O<|.xk (zl [0,0] 2 O)<|.BZ<|.cr 9 [1] [] 0 (sG JF) zVR O fun A8 c8=>.xk (zl [1,1] 3 O)<|.DR (Rd.KH (n':=28) hx3 O O O O O O O) O<|.yn 2 O ?_;refine UQ _ _ (A8,c8) ?_ ?_
      ·exact ⟨O,O,O,O,O,O,O,O,O,O,trivial⟩
      exact fun _ w=>w
     refine .BZ<|.cr 9 [1] [] 0 (sG JF) zVR O fun A8 c8=>.xk (zl [1,1] 3 O)<|.BZ<|.lb 0 4 O<|.xk (zl [1,1] 3 O)<|.DR (Rd.KH (n':=28) hx3 O O O O O O O) O<|.yn 2 O ?_;refine UQ _ _ (A8,c8) ?_ ?_
     ·exact ⟨O,O,O,O,O,O,O,O,O,O,trivial⟩
     exact fun _ w=>w
    case dw=>
     rintro ⟨A8,c8⟩;refine .nm 9 O<|.BZ<|.AQ (fun _ w=>w.CO)<|.yw (ls:=yI) 13 (fun ex=>((A8,c8),())) hx3 hl3 O O (FX 3 O) O O O O (fun _=>O) (fun _=>⟨EI,trivial⟩) ?_;refine .ss 43 (zF hl3)<|.AQ (F':=.res (uD (yL yI) 90 (some ⟨g4,0,none⟩) c5 l3):: .ro (BP vD A8 c8 r5):: .ro (vJ b1 ED (xB x1 A7 c7)):: .ro (BP vD A7 c7 x1.Conversion.DW):: .res (Box g3 167 [.slice (some ⟨g4,0,none⟩) l3.length c5, .slice A4 r4.length c4, .slice (some ⟨g1,0,none⟩) l1.length (Int.toNat (AZ.length:Int)), .slice (some ⟨g2,0,none⟩) l2.length (Int.toNat (AZ.length:Int))]):: .res (zD jM 71 (some ⟨g2,0,none⟩) (Int.toNat (AZ.length:Int)) l2):: .res (uD (yL yO) 176 (some ⟨g1,0,none⟩) (Int.toNat (AZ.length:Int)) l1):: .res (zD zX 163 A4 c4 r4):: .ro (Sl (yL yI) A1 c1 AZ)::R) (fun _ w=>by rw [fO hl3]; exact w)<|.xk (zl [2,2] 3 O)<|.BX<|.BF<|.AB<|.pf [0,8,36,37] [0] 3 O O<|.region ?_;cases h1;exact .be O<|.ag ((some ⟨g4,0,none⟩),c5) hm1 O zw
   refine .xq O ?_;cases h1;cases hd1 _ rfl
   exact .AB<|.hE (A5,c5) O (zl [0,0,0,0,0] 1 O)
  rintro ⟨A6,c6⟩;refine .ab [4,5] O<|.AQ (fun _ w=>w.IZ)<|.AQ (fun _ w=>(w.sl [4] 0 O).CO) ?_;cases h;exact .rv O O ⟨g3,A6,c6,A4,c4,(some ⟨g1,0,none⟩),(Int.toNat (AZ.length:Int)),(some ⟨g2,0,none⟩),(Int.toNat (AZ.length:Int)),O,O⟩ (zk 5 2 [4,3] [2,3,2] 0 O)
theorem zXH:BV Tryz.prog 118:=en Tryz.func118 (by kernel_rfl)
def oE (CU:Int) (IQ:Int):Option (Int × Int):=
 some (wrap .u64 ((wrap .u64 ((wrap .u64 ((xP .u64 CU 32)*(xP .u64 IQ 32)))+(xP .u64 (wrap .u64 ((wrap .u64 ((xP .u64 CU 32)*(vL .u64 IQ 4294967295)))+(xP .u64 (wrap .u64 ((vL .u64 CU 4294967295)*(vL .u64 IQ 4294967295))) 32))) 32)))+(xP .u64 (wrap .u64 ((vL .u64 (wrap .u64 ((wrap .u64 ((xP .u64 CU 32)*(vL .u64 IQ 4294967295)))+(xP .u64 (wrap .u64 ((vL .u64 CU 4294967295)*(vL .u64 IQ 4294967295))) 32))) 4294967295)+(wrap .u64 ((vL .u64 CU 4294967295)*(xP .u64 IQ 32))))) 32)),wrap .u64 (CU*IQ))
theorem zDz {CU IQ r} (h:oE CU IQ=some r):
    AX Tryz.prog 118 [.int .u64 CU, .int .u64 IQ] [] (Val (.tuple #[.int .u64 r.1, .int .u64 r.2])):=by
 unfold oE at h
 refine AX.intro Tryz.func118 O O O fun w R=>?_;refine .ab [0,1] O<|.ab [0,1,6] O<|.ab [0,1,6,7] O<|.ab [0,1,6,7,8] O<|.ab [0,1,6,7,8,9] O<|.ab [0,1,6,7,8,9,10] O<|.ab [0,1,6,7,9,11] O<|.ab [0,1,6,7,9,11,12] O<|.ab [0,1,6,7,9,12,13] O<|.ab [0,1,7,9,12,13] O<|.ab [0,1,4] O<|.ab [4,5] O ?_;cases h;exact .rv O O ⟨O,O⟩ zw
theorem zXX:BV Tryz.prog 81:=en Tryz.func81 (by kernel_rfl)
def mH (CU:Int) (IQ:Int):Option (Int × Int):=
 bnd (oE CU IQ) fun r1=>some (r1.1,r1.2)
theorem zFp {CU IQ r} (h:mH CU IQ=some r):
    AX Tryz.prog 81 [.int .u64 CU, .int .u64 IQ] [] (Val (.tuple #[.int .u64 r.1, .int .u64 r.2])):=by
 refine AX.intro Tryz.func81 O O O fun w R=>?_;refine .ab [0,1] O<|.seq<|.FN O<|.sk<|.a 2 O<|.bd h fun r1 hr1 h=>.cv [] (zDz hr1) zXH O<|.b [8,9] O<|.ab [4,5] O ?_;cases h;exact .rv O O ⟨O,O⟩ zw
theorem zVL:BV Tryz.prog 34:=en Tryz.func34 (by kernel_rfl)
def uQ [AO] (CU:(List Int)) (count:Int):Option (List Int):=
 bif decide (count<0) then (none) else (bnd (mH (wrap .u64 (CU.length:Int)) (wrap .u64 count)) fun r1=>bnd ((bif decide (r1.1>0) then (some true) else (some (decide (r1.2>9223372036854775807))):Option Bool)) fun o1=>bif o1 then (none) else (bnd (mkS 1 0 (wrap .i64 r1.2) (wrap .i64 r1.2)) fun l1=>bnd (eA l1 0 l1.length CU) fun l2=>bnd (zI (τ:=List Int) (fun (s1:Int × List Int)=>bif decide (s1.1<(s1.2.length:Int)) then (bnd (jP s1.2.length s1.1 (s1.2.length:Int)) fun n1=>bnd (jP s1.2.length 0 s1.1) fun n2=>bnd (sub s1.2 ((Int.toNat 0:Nat):Int) (((Int.toNat 0)+n2:Nat):Int)) fun l3=>bnd (eA s1.2 (Int.toNat s1.1) n1 l3) fun l4=>some (.next (wrap .i64 (s1.1+((min l3.length n1:Nat):Int)),l4))) else (some (.done s1.2))) (((min CU.length l1.length:Nat):Int),l2)) fun o2=>some o2))
theorem oL [AO] {CU count A1 c1 r} (h:uQ CU count=some r):
    AX Tryz.prog 34 [.slice A1 CU.length c1, .int .i64 count] [.ro (BP AP A1 c1 CU)] (fun v F=>∃ A2 c2,v= .slice A2 r.length c2∧F= [.res (zD AP 5 A2 c2 r)]):=by
 refine AX.intro Tryz.func34 O O O fun w R=>?_;refine .ab [0,1] O<|.seq<|.ab [0,1,10] O<|.cb h O (fun h=>?_) (fun h=>?_)
 ·refine .region ?_;cases h
 refine .sk<|.pr [0,1] O<|.a 5 O<|.bd h fun r1 hr1 h=>.cv [] (zFp hr1) zXX O<|.b [0,5,6] O<|.seq<|.seq<|.bd h fun o1 hj1 h=>.cu 0 [0,6, .s 26 (.bool o1)] [] O O ?_ ?_
 ·refine .region<|.n 3 O<|.gs 23 hj1 O (fun hj1=>?_) (fun hj1=>?_)
  ·cases hj1;exact .be O<|.hU O zw
  cases hj1;exact .be O<|.hU O zw
 refine .cb h O (fun h=>?_) (fun h=>?_)
 ·refine .region ?_;cases h
 refine .sk<|.pr [0,6] O<|.a 2 O<|.bd h fun l1 hl1 h=>.RU (E:=AP) 0 hl1 O O O O O O O O O O fun g1=>.b [0,7] O<|.a 2 O<|.bd h fun l2 hl2 h=>.Ae (E:=AP) hl2 O O O O O .z (zUI EI) O O O O ?_;refine .ss 7 (Rk hl2) ?_;refine .ss 31 (Rk hl2)<|.bf [7,8] [0] 1 O O<|.seq<|.bd h fun o2 hl1 h=>.DZ 1 (fun (e3:Option Addr × Nat)=>[.s 7 (.slice e3.1 o2.length e3.2)]) (fun e3=>[.res (zD AP 5 e3.1 e3.2 o2)]) O O ?_ ?_
 ·refine .block<|.BH hl1 1 (fun (s1:Int × List Int) (e2:Option Addr × Nat)=>[.s 7 (.slice e2.1 s1.2.length e2.2), .s 8 (.int .i64 s1.1)]) (fun s1 e2=>[.res (zD AP 5 e2.1 e2.2 s1.2)]) O O ((some ⟨g1,0,none⟩),(Int.toNat (wrap .i64 r1.2))) (zb O) (fun _ w=>w) ?_;rintro s1 ⟨A2,c2⟩ st1 hm1 hd1 h1;refine .seq<|.ab [7,8,37] O<|.cb h1 O (fun h1=>?_) (fun h1=>?_)
  ·refine .sk<|.pr [7,8] O<|.block<|.bd h1 fun n1 hn1 h1=>.bd h1 fun n2 hn2 h1=>.bd h1 fun l3 hl3 h1=>.bd h1 fun l4 hl4 h1=>.BG (iN [0,4,8,16,20] (.alt (iN [15] (iN [27] (iN [31,32,36] .nil))) (iN [27] (iN [15] (iN [31,32,36] .nil))))) _ mixed (by kernel_rfl) (zl [] 1 O)<|.EC (Y:=?JE) 0 (fun (e:Unit)=>[7,8, .s 38 (.int .i64 s1.1), .s 41 (.slice (YH A2 c2 (Int.toNat s1.1) 1) n1 (c2 - (Int.toNat s1.1))), .s 44 (.slice (YH A2 c2 (Int.toNat 0) 1) n2 (c2 - (Int.toNat 0)))]) (fun e=>[]) O O (fun DT=>?EW) ?EX
   case EW=>
    refine .yn 5 O<|.GZ ?_ ?_
    ·refine .BZ<|.part (E:=AP) hn1 O O (.head _) O O O O O O O<|.xk (zl [] 1 O)<|.BZ<|.part (E:=AP) hn2 O O (.head _) O O O O O O O<|.xk (zl [] 1 O) ?_;refine DT _ _ () ?_ ?_
     ·exact ⟨O,O,O,O,O,trivial⟩
     exact fun _ w=>w
    refine .BZ<|.part (E:=AP) hn2 O O (.head _) O O O O O O O<|.xk (zl [] 1 O)<|.BZ<|.part (E:=AP) hn1 O O (.head _) O O O O O O O<|.xk (zl [] 1 O) ?_;refine DT _ _ () ?_ ?_
    ·exact ⟨O,O,O,O,O,trivial⟩
    exact fun _ w=>w
   case EX=>
    rintro ⟨⟩;refine .nm 1 O<|.BZ<|.Af (E:=AP) Aa hl4 O O O (zWQ hl3) .z (zQa (E:=AP) Aa hl3 (.head _)) O O O O ?_;refine .ss 7 (Rk hl4)<|.xk (zl [] 1 O)<|.yn 2 O<|.BX<|.BF ?_;cases h1;exact .AB<|.ag (A2,c2) hm1 O zw
  refine .xq O ?_;cases h1;cases hd1 _ rfl
  exact .AB<|.hE (A2,c2) O zw
 rintro ⟨A3,c3⟩;refine .ab [4] O ?_;cases h;exact .rv O O ⟨A3,c3,O,O⟩ zw
theorem zVM:BV Tryz.prog 14:=en Tryz.func14 (by kernel_rfl)
def lC [AO] (BL:Int) (size:Int):Option ((Option zA) × Int):=
 bnd ((bif decide (BL<1) then (some true) else (bif decide (BL>16) then (some true) else (bif decide (size<64) then (some true) else (some (decide (size>1024))))):Option Bool)) fun o1=>bif o1 then (some (none,2)) else (bnd (uQ ([255]) (wrap .i64 (BL*size))) fun r1=>bnd (mkS 8 0 BL BL) fun l1=>some ((some (⟨size,r1,l1,0,0,0,false⟩:zA)),0))
theorem zEO [AO] {BL size r} (h:lC BL size=some r):
    AX Tryz.prog 14 [.int .i64 BL, .int .i64 size] [] (ZY r.1 (fun v F=>v= .tuple #[.pointer none, .int .i64 r.2]∧F= []) (fun q_ v F=>∃ g1 A1 c1 A2 c2,v= .tuple #[.pointer (some ⟨g1,0,none⟩), .int .i64 r.2]∧F= [.res (Box g1 112 (zJ q_ A1 c1 A2 c2)), .res (zD AP 5 A1 c1 q_.bytes), .res (zD xA 3 A2 c2 q_.AY)])):=by
 refine AX.intro Tryz.func14 O O O fun w R=>?_;refine .ab [0,1] O<|.seq<|.seq<|.bd h fun o1 hj1 h=>.cu 0 [0,1, .s 19 (.bool o1)] [] O O ?_ ?_
 ·refine .region<|.n 3 O<|.gs 8 hj1 O (fun hj1=>?_) (fun hj1=>?_)
  ·cases hj1;exact .be O<|.hU O zw
  refine .n 4 O<|.gs 12 hj1 O (fun hj1=>?_) (fun hj1=>?_)
  ·cases hj1;exact .be O<|.hU O zw
  refine .n 4 O<|.gs 16 hj1 O (fun hj1=>?_) (fun hj1=>?_)
  ·cases hj1;exact .be O<|.hU O zw
  cases hj1;exact .be O<|.hU O zw
 refine .cb h O (fun h=>?_) (fun h=>?_)
 ·refine .ab [4,5] O ?_;cases h;exact .rv O O (cL ⟨O,O⟩) zw
 refine .sk<|.pr [0,1] O<|.seq<|.bd h fun r1 hr1 h=>.bd h fun l1 hl1 h=>.BG (iN [0,8,12,16,24] (.alt (iN [7] (.alt (iN [23] (iN [31,32] (iN [39,40,44] .nil))) (iN [31] (iN [23,32] (iN [39,40,44] .nil))))) (iN [31] (iN [7] (iN [23,32] (iN [39,40,44] .nil)))))) _ mixed (by kernel_rfl) zw<|.EC (Y:=?JE) 0 (fun (e:Option Addr × Nat × Nat × Nat)=>[.s 20 (.int .i64 size), .s 25 (.slice e.1 r1.length e.2.1), .s 27 (.slice (some ⟨e.2.2.1,0,none⟩) l1.length (Int.toNat BL)), .s 28 (.agg #[.int .i64 size, .slice e.1 r1.length e.2.1, .slice (some ⟨e.2.2.1,0,none⟩) l1.length (Int.toNat BL), .int .i64 0, .int .i64 0, .int .u8 0, .bool false])]) (fun e=>[.res (zD xA 3 (some ⟨e.2.2.1,0,none⟩) (Int.toNat BL) l1), .res (zD AP 5 e.1 e.2.1 r1), .ro (BP AP (some ⟨e.2.2.2,0,none⟩) ([255]:List Int).length ([255]))]) O O (fun DT=>?EW) ?EX
 case EW=>
  refine .EC (Y:=?LX) 0 (fun (e:Nat × Nat)=>[.s 20 (.int .i64 size), .s 21 (.slice (some ⟨e.1,0,none⟩) 1 1), .s 24 (.int .i64 (wrap .i64 (BL*size))), .s 27 (.slice (some ⟨e.2,0,none⟩) l1.length (Int.toNat BL))]) (fun e=>[.res (zD xA 3 (some ⟨e.2,0,none⟩) (Int.toNat BL) l1), .res (Box e.1 5 [.int .u8 255])]) O O (fun FK=>?IJ) ?IK
  case IJ=>
   refine .yn 5 O<|.GZ ?_ ?_
   ·refine .BZ<|.bS O fun g1=>.xk (zl [] 1 O)<|.GZ ?_ ?_
    ·refine .BZ<|.AQ (fun _ w=>w.IB (E:=AP) (e:=5) [255] O O)<|.AQ (fun _ w=>w.CO)<|.cr 2 [0] [] 0 (oL hr1) zVL O fun A1 c1=>.xk (zl [] 2 O)<|.BZ<|.RU (E:=xA) 0 hl1 O O O O O O O O O O fun g2=>.xk (zl [] 3 O)<|.yn 1 O ?_;refine DT _ _ (A1,c1,g2,g1) ?_ ?_
     ·exact ⟨O,O,O,O,trivial⟩
     exact fun _ w=>w
    refine .BZ<|.RU (E:=xA) 0 hl1 O O O O O O O O O O fun g2=>.xk (zl [] 2 O) ?_;refine FK _ _ (g1,g2) ?_ ?_
    ·exact ⟨O,O,O,O,trivial⟩
    exact fun _ w=>w
   refine .BZ<|.RU (E:=xA) 0 hl1 O O O O O O O O O O fun g2=>.xk (zl [] 1 O)<|.BZ<|.bS O fun g1=>.xk (zl [] 2 O) ?_;refine FK _ _ (g1,g2) ?_ ?_
   ·exact ⟨O,O,O,O,trivial⟩
   exact fun _ w=>(w.sl [1] 0 O)
  case IK=>
   rintro ⟨g1,g2⟩;refine .nm 2 O<|.BZ<|.AQ (fun _ w=>(w.sl [1] 0 O).IB (E:=AP) (e:=5) [255] O O)<|.AQ (fun _ w=>w.CO)<|.cr 3 [0] [] 0 (oL hr1) zVL O fun A1 c1=>.xk (zl [] 3 O)<|.yn 1 O ?_;refine DT _ _ (A1,c1,g2,g1) ?_ ?_
   ·exact ⟨O,O,O,O,trivial⟩
   exact fun _ w=>(w.sl [2] 0 O)
 case EX=>
  rintro ⟨A1,c1,g2,g1⟩;refine .nm 3 O<|.BZ<|.box O O fun g3=>.xk (zl [] 4 O)<|.yn 2 O<|.BX<|.AB<|.pf [4,5] [0,0,0] 1 O O ?_;cases h;exact .rv O O (Rj ⟨g3,A1,c1,(some ⟨g2,0,none⟩),(Int.toNat BL),O,O⟩) (zl [0,1] 0 O)
theorem Vb:BV Tryz.prog 35:=en Tryz.func35 (by kernel_rfl)
def vO (BD:zA):Option Int:=
 some (BD.AY.length:Int)
theorem pO {BD A1 c1 A2 c2 BN r} (h:vO BD=some r):
    AX Tryz.prog 35 [.pointer (some ⟨BN,0,none⟩)] [.res (Box BN 112 (zJ BD A1 c1 A2 c2)), .res (zD AP 5 A1 c1 BD.bytes), .res (zD xA 3 A2 c2 BD.AY)] (fun v F=>v= .int .i64 r∧F= [.res (Box BN 112 (zJ BD A1 c1 A2 c2)), .res (zD AP 5 A1 c1 BD.bytes), .res (zD xA 3 A2 c2 BD.AY)]):=by
 unfold vO at h
 refine AX.intro Tryz.func35 O O O fun w R=>?_;refine .ab [0] O<|.a 3 O<|.lb 2 0 O<|.b [2] O ?_;cases h;exact .rv O O ⟨O,O⟩ zw
theorem dK:BV Tryz.prog 36:=en Tryz.func36 (by kernel_rfl)
def zK (BD:zA):Option Int:=
 some BD.size
theorem yR {BD A1 c1 A2 c2 BN r} (h:zK BD=some r):
    AX Tryz.prog 36 [.pointer (some ⟨BN,0,none⟩)] [.res (Box BN 112 (zJ BD A1 c1 A2 c2)), .res (zD AP 5 A1 c1 BD.bytes), .res (zD xA 3 A2 c2 BD.AY)] (fun v F=>v= .int .i64 r∧F= [.res (Box BN 112 (zJ BD A1 c1 A2 c2)), .res (zD AP 5 A1 c1 BD.bytes), .res (zD xA 3 A2 c2 BD.AY)]):=by
 unfold zK at h
 refine AX.intro Tryz.func36 O O O fun w R=>?_;refine .ab [0] O<|.a 3 O<|.lb 0 0 O<|.b [2] O ?_;cases h;exact .rv O O ⟨O,O⟩ zw
theorem zVu:BV Tryz.prog 82:=en Tryz.func82 (by kernel_rfl)
def uV (BD:zA) (DY:Int) (JS:Int):Option Bool:=
 bnd ((bif decide (DY≥0) then (bif decide (DY≤(BD.bytes.length:Int)) then (bif decide (JS≥0) then (some (decide (JS≤(wrap .i64 ((BD.bytes.length:Int) - DY))))) else (some false)) else (some false)) else (some false):Option Bool)) fun o1=>some o1
theorem kM {BD DY JS A1 c1 A2 c2 BN r} (h:uV BD DY JS=some r):
    AX Tryz.prog 82 [.pointer (some ⟨BN,0,none⟩), .int .i64 DY, .int .i64 JS] [.res (Box BN 112 (zJ BD A1 c1 A2 c2)), .res (zD AP 5 A1 c1 BD.bytes), .res (zD xA 3 A2 c2 BD.AY)] (fun v F=>v= .bool r∧F= [.res (Box BN 112 (zJ BD A1 c1 A2 c2)), .res (zD AP 5 A1 c1 BD.bytes), .res (zD xA 3 A2 c2 BD.AY)]):=by
 refine AX.intro Tryz.func82 O O O fun w R=>?_;refine .ab [0,1,2] O<|.seq<|.bd h fun o1 hj1 h=>.cu 0 [.s 6 (.bool o1)] [] O O ?_ ?_
 ·refine .region<|.n 3 O<|.gs 9 hj1 O (fun hj1=>?_) (fun hj1=>?_)
  ·refine .n 4 O<|.BR O O<|.lb 1 0 O<|.n 4 O<|.gs 18 hj1 O (fun hj1=>?_) (fun hj1=>?_)
   ·refine .n 4 O<|.gs 22 hj1 O (fun hj1=>?_) (fun hj1=>?_)
    ·refine .n 4 O<|.BR O O<|.lb 1 0 O ?_;cases hj1;exact .be O<|.hU O zw
    cases hj1;exact .be O<|.hU O zw
   cases hj1;exact .be O<|.hU O zw
  cases hj1;exact .be O<|.hU O zw
 cases h;exact .rv O O ⟨O,O⟩ zw
theorem YP:BV Tryz.prog 83:=en Tryz.func83 (by kernel_rfl)
def zR (AL:(List Int)):Option (List Int):=
 bnd (app 1 ([]) AL) fun l1=>some l1
theorem xI {AL A1 c1 r} (h:zR AL=some r):
    AX Tryz.prog 83 [.slice A1 AL.length c1] [.ro (BP AP A1 c1 AL)] (fun v F=>∃ A2 c2,v= .slice A2 r.length c2∧F= [.res (zD AP 5 A2 c2 r)]):=by
 unfold zR at h
 refine AX.intro Tryz.func83 O O O fun w R=>?_
 rcases A1 with _ | ad
 ·refine .fact (φ:=AL= []) (fun w hf=>(hf.ro (r:=BP AP none c1 AL) (.head _)).2.2.1 O) fun hs=>?_;subst hs;have h:(some ([]):Option (List Int))=some r:=by simpa [app,bnd] using h
  refine .ab [0] O<|.seq<|.ab [0,4] O<|.EF O<|.EQ [2] [] 1 O O<|.AQ (fun _ w=>w.EH AP 5) ?_;cases h;exact .rv O O ⟨none,0,O,O⟩ zw
 refine .ab [0] O<|.seq<|.ab [0,4] O<|.FN O<|.sk<|.pr [0] O<|.seq<|.region<|.bS O fun g1=>.p O O<|.AQ (fun _ w=>w.IB (E:=AP) (e:=5) [] O O)<|.bd h fun l1 hl1 h=>.app (E:=AP) hl1 O O O .z O O O O O O O O (OB EI) O O fun A2 c2=>.bf [2] [0] 1 O O ?_;cases h;exact .rv O O ⟨A2,c2,O,O⟩ zw
theorem Jj:BV Tryz.prog 37:=en Tryz.func37 (by kernel_rfl)
def xU (BD:zA) (DY:Int) (JS:Int):Option (zA × (List Int) × Int):=
 bif BD.down then (some (BD, [],10)) else (bnd (uV BD DY JS) fun r1=>bif !r1 then (some (BD, [],2)) else (bnd (jP BD.bytes.length DY (wrap .i64 (DY+JS))) fun n1=>bnd (sub BD.bytes ((Int.toNat DY:Nat):Int) (((Int.toNat DY)+n1:Nat):Int)) fun l1=>bnd (zR l1) fun r2=>some (BD,r2,0)))
theorem qI {BD DY JS A1 c1 A2 c2 BN r} (h:xU BD DY JS=some r):
    AX Tryz.prog 37 [.pointer (some ⟨BN,0,none⟩), .int .i64 DY, .int .i64 JS] [.res (Box BN 112 (zJ BD A1 c1 A2 c2)), .res (zD AP 5 A1 c1 BD.bytes), .res (zD xA 3 A2 c2 BD.AY)] (fun v F=>∃ A3 c3 A4 c4 A5 c5,v= .tuple #[.slice A5 r.2.1.length c5, .int .i64 r.2.2]∧F= [.res (Box BN 112 (zJ r.1 A3 c3 A4 c4)), .res (zD AP 5 A3 c3 r.1.bytes), .res (zD xA 3 A4 c4 r.1.AY), .res (zD AP 5 A5 c5 r.2.1)]):=by
 refine AX.intro Tryz.func37 O O O fun w R=>?_;refine .ab [0,1,2] O<|.seq<|.block<|.a 3 O<|.lb 6 0 O<|.b [0,1,2,8] O<|.cb h O (fun h=>?_) (fun h=>?_)
 ·refine .ab [6,7] O<|.AQ (fun _ w=>w.EH AP 5) ?_;cases h;exact .rv O O ⟨A1,c1,A2,c2,none,0,O,O⟩ (zl [1,1,1] 0 O)
 refine .a 3 O<|.bd h fun r1 hr1 h=>.cq 3 [] [] 0 (kM hr1) zVu O<|.b [0,1,2,13] O<|.cb h O (fun h=>?_) (fun h=>?_)
 ·refine .ab [6,7] O<|.AQ (fun _ w=>w.EH AP 5) ?_;cases h;exact .rv O O ⟨A1,c1,A2,c2,none,0,O,O⟩ (zl [1,1,1] 0 O)
 refine .skip<|.BF<|.AB<|.pr [0,1,2] O<|.a 3 O<|.lb 1 0 O<|.n 4 O<|.bd h fun n1 hn1 h=>.part (E:=AP) hn1 O O EI O O O O O O O<|.bd h fun l1 hl1 h=>?_;refine .ss 27 (zQJ hl1)<|.bd h fun r2 hr2 h=>.YF (xI hr2) YP O O O O (bQ.part Aa hl1 EI bQ.nil) (by rintro _ _ ⟨_,_,rfl,rfl⟩; exact ⟨zOX _ _ _ _ _,True.intro⟩) ?_;rintro _ _ ⟨A3,c3,rfl,rfl⟩;refine .nm 4 O<|.b [6,7] O ?_;cases h;exact .rv O O ⟨A1,c1,A2,c2,A3,c3,O,O⟩ (zl [1,1,1] 0 O)
theorem zVP:BV Tryz.prog 86:=en Tryz.func86 (by kernel_rfl)
def oZ (BA:(List Int)):Option Int:=
 bnd (AU BA 0) fun x1=>bnd (AU BA 1) fun x2=>bnd (AU BA 2) fun x3=>bnd (AU BA 3) fun x4=>some (CZ .i64 (CZ .i64 (CZ .i64 (wrap .i64 x1) (yM .i64 (wrap .i64 x2) 8)) (yM .i64 (wrap .i64 x3) 16)) (yM .i64 (wrap .i64 x4) 24))
theorem cA {BA A1 c1 r} (h:oZ BA=some r):
    AX Tryz.prog 86 [.slice A1 BA.length c1] [.ro (BP AP A1 c1 BA)] (Val (.int .i64 r)):=by
 refine AX.intro Tryz.func86 O O O fun w R=>?_;refine .ab [0] O<|.seq<|.regionF mixed (by kernel_rfl)<|.p O O<|.bd h fun x1 hx1 h=>.FB hx1 0 O fun b1 ED=>.ld ED 0 0 O<|.n 2 O<|.bd h fun x2 hx2 h=>.FB hx2 1 O fun b2 JA=>.ld JA 0 0 O<|.n 4 O<|.bd h fun x3 hx3 h=>.FB hx3 2 O fun b3 JY=>.ld JY 0 0 O<|.n 4 O<|.bd h fun x4 hx4 h=>.FB hx4 3 O fun b4 KN=>.ld KN 0 0 O<|.beq O<|.pf [2] [] 5 O O ?_;cases h;exact .rv O O ⟨O,O⟩ zw
theorem zYx:BV Tryz.prog 39:=en Tryz.func39 (by kernel_rfl)
def xR (BJ:xG) (HY:(List Int)) (XI:Int):Option (mS × Bool):=
 bnd (oZ HY) fun r1=>bnd (sub HY 4 (HY.length:Int)) fun l1=>bnd (oZ l1) fun r2=>bnd (AU HY 8) fun x1=>bnd (AU HY 9) fun x2=>bnd ((bnd (AU HY 10) fun x3=>bif (x3==0) then (bif decide (r1≥1) then (bif decide (r1≤2147483648) then (bnd (TV (wrap .i64 (r1 - 1)) BJ.BL) fun q1=>some (q1==XI)) else (some false)) else (some false)) else (some false):Option Bool)) fun o1=>bnd ((bif o1 then (bif decide (r2≥1) then (bif decide (r2≤r1) then (some (decide ((wrap .i64 (r1 - r2))≤(wrap .i64 (BJ.BL - 2))))) else (some false)) else (some false)) else (some false):Option Bool)) fun o2=>bnd ((bif o2 then (bif decide ((CZ .u16 (wrap .u16 x1) (yM .u16 (wrap .u16 x2) 8))≥1) then (some (decide ((CZ .u16 (wrap .u16 x1) (yM .u16 (wrap .u16 x2) 8))≤65534),r1,r2,CZ .u16 (wrap .u16 x1) (yM .u16 (wrap .u16 x2) 8))) else (some (false,r1,r2,CZ .u16 (wrap .u16 x1) (yM .u16 (wrap .u16 x2) 8)))) else (some (false,r1,r2,CZ .u16 (wrap .u16 x1) (yM .u16 (wrap .u16 x2) 8))):Option (Bool × Int × Int × Int))) fun o3=>some ((⟨o3.2.1,o3.2.2.1,o3.2.2.2⟩:mS),o3.1)
theorem zAi {BJ HY XI A1 c1 A2 c2 BN ES r} (h:xR BJ HY XI=some r):
    AX Tryz.prog 39 [.pointer (some ⟨BN,0,none⟩), .slice A2 HY.length c2, .int .i64 XI] [.ro (BP AP A2 c2 HY), .res (Box BN 124 (wR BJ ES A1 c1)), .res (zD xV 155 A1 c1 BJ.records)] (fun v F=>v= .tuple #[.agg #[.int .i64 r.1.sequence, .int .i64 r.1.tail, .int .u16 r.1.Jf], .bool r.2]∧F= [.res (Box BN 124 (wR BJ ES A1 c1)), .res (zD xV 155 A1 c1 BJ.records)]):=by
 unfold xR at h
 refine AX.intro Tryz.func39 O O O fun w R=>?_;refine .seq<|.region<|.alloc O O fun g1=>.b [0,1,2,6] O<|.seq<|.BG (iN [0,6,8,12,18,20,24,28,32,36,40,44,48,52,56,60,67,71] .nil) _ mixed (by kernel_rfl) zw<|.yn 1 O<|.bd h fun r1 hr1 h=>.YC (fun _ h=>h) (cA hr1) zVP O O O O (za [1] O)<|.yn 1 O<|.bd h fun l1 hl1 h=>.LU EI hl1 fun A3 c3 hS1=>?_;have hc1:=fun w h=>Sat.QA hS1 EI hl1 ((fun (w:World) (h:Sat (.res (Box g1 128 [.int .i64 0, .int .i64 0, .int .u16 0]):: .ro (BP AP A2 c2 HY):: .res (Box BN 124 (wR BJ ES A1 c1)):: .res (zD xV 155 A1 c1 BJ.records)::R) w)=>h) w h);refine .IG hc1 (Rd.sub hS1 hl1 (zm 2 O) O O O O O O O O) O<|.bd h fun r2 hr2 h=>.YC hc1 (cA hr2) zVP O O O O (za [0] O)<|.yn 1 O<|.bd h fun x1 hx1 h=>.FV (zm 2 O) hx1 fun b1 ED UO=>.AQ (fun _ w=>Sat.EP UO (zm 2 O) hx1 w) ?_;have hc2:=fun w h=>Sat.EP UO (zm 2 O) hx1 (hc1 w h);refine .IG (fun _ h=>h) (Rd.LK (E:=AP) UO hx1 O O O O O O O) O<|.IG hc2 (Rd.load ED 0 O (.head _) O O) O<|.yn 2 O<|.bd h fun x2 hx2 h=>.FV (zm 3 O) hx2 fun b2 JA eu=>.AQ (fun _ w=>Sat.EP eu (zm 3 O) hx2 w) ?_;have hc3:=fun w h=>Sat.EP eu (zm 3 O) hx2 (hc2 w h);refine .IG (fun _ h=>h) (Rd.LK (E:=AP) eu hx2 O O O O O O O) O<|.IG hc3 (Rd.load JA 0 O (.head _) O O) O<|.yn 4 O<|.BZ<|.alloc O O fun g2=>.xk (zl [] 4 O)<|.BZ<|.sb 0 0 O<|.xk (zl [] 4 O)<|.BX<|.AB<|.pf [0,1,2,6,8] [0] 3 O O<|.seq<|.bd h fun o1 hj1 h=>.cu 3 [0,6,8, .s 9 (.bool o1)] [0,1] O O ?_ ?_
 ·refine .regionF mixed (by kernel_rfl)<|.p O O<|.bd hj1 fun x3 hx3 hj1=>.FB hx3 2 O fun b3 JY=>.ld JY 0 0 O<|.n 2 O<|.gs 30 hj1 O (fun hj1=>?_) (fun hj1=>?_)
  ·refine .n 1 O<|.BR O O<|.lb 0 1 O<|.n 3 O<|.gs 35 hj1 O (fun hj1=>?_) (fun hj1=>?_)
   ·refine .n 1 O<|.BR O O<|.lb 0 1 O<|.n 3 O<|.gs 40 hj1 O (fun hj1=>?_) (fun hj1=>?_)
    ·refine .n 1 O<|.BR O O<|.lb 0 1 O<|.n 4 O<|.BR O O<|.lb 2 4 O<|.BR O O<|.bd hj1 fun q1 hq1 hj1=>.rem O O O hq1 ?_;cases hj1;exact .beq O<|.hU O (zl [1,1] 2 O)
    cases hj1;exact .beq O<|.hU O (zl [1,1] 2 O)
   cases hj1;exact .beq O<|.hU O (zl [1,1] 2 O)
  cases hj1;exact .beq O<|.hU O (zl [1,1] 2 O)
 refine .seq<|.bd h fun o2 hj2 h=>.cu 0 [6,8, .s 9 (.bool o2)] [] O O ?_ ?_
 ·refine .regionF mixed (by kernel_rfl)<|.n 2 O<|.gs 53 hj2 O (fun hj2=>?_) (fun hj2=>?_)
  ·refine .n 1 O<|.BR O O<|.lb 1 0 O<|.n 3 O<|.gs 58 hj2 O (fun hj2=>?_) (fun hj2=>?_)
   ·refine .n 1 O<|.BR O O<|.lb 1 0 O<|.n 1 O<|.BR O O<|.lb 0 0 O<|.n 3 O<|.gs 65 hj2 O (fun hj2=>?_) (fun hj2=>?_)
    ·refine .n 1 O<|.BR O O<|.lb 0 0 O<|.n 1 O<|.BR O O<|.lb 1 0 O<|.n 4 O<|.BR O O<|.lb 2 2 O ?_;cases hj2;exact .beq O<|.hU O zw
    cases hj2;exact .beq O<|.hU O zw
   cases hj2;exact .beq O<|.hU O zw
  cases hj2;exact .beq O<|.hU O zw
 refine .seq<|.bd h fun o3 hj3 h=>.cu 2 [6, .s 7 (.bool o3.1)] [.res (Box g1 128 [.int .i64 o3.2.1, .int .i64 o3.2.2.1, .int .u16 o3.2.2.2])] O O ?_ ?_
 ·refine .BG (iN [1,4,8,12,17,20,24,28,32,36,40,44,51,52] .nil) _ mixed (by kernel_rfl) (zl [0] 1 O)<|.yx 0 0 O<|.yn 2 O<|.sB 80 hj3 O (fun hj3=>?_) (fun hj3=>?_)
  ·refine .yn 1 O<|.LV O O<|.yx 2 0 O<|.yn 3 O<|.sB 85 hj3 O (fun hj3=>?_) (fun hj3=>?_)
   ·refine .yn 1 O<|.LV O O<|.yl 2 0 O<|.yn 2 O<|.BZ<|.sb 0 1 O<|.xk (zl [] 1 O)<|.yn 1 O<|.BX ?_;cases hj3;exact .AB<|.hU O (zl [0] 1 O)
   refine .yn 4 O<|.BZ<|.sb 0 1 O<|.xk (zl [] 1 O)<|.yn 1 O<|.BX ?_;cases hj3;exact .AB<|.hU O (zl [0] 1 O)
  refine .yn 9 O<|.BZ<|.sb 0 1 O<|.xk (zl [] 1 O)<|.yn 1 O<|.BX ?_;cases hj3;exact .AB<|.hU O (zl [0] 1 O)
 cases h;exact .rt O Tryz.results39 (.cell O (.head _) O (.tmp O .nil)) O ⟨O,O⟩ (zl [] 1 O)
theorem zVz:BV Tryz.prog 58:=en Tryz.func58 (by kernel_rfl)
def nB (size:Int):Option Int:=
 some (wrap .i64 ((wrap .i64 (size - 11)).tdiv 17))
theorem cC {size r} (h:nB size=some r):
    AX Tryz.prog 58 [.int .i64 size] [] (Val (.int .i64 r)):=by
 unfold nB at h
 refine AX.intro Tryz.func58 O O O fun w R=>?_;refine .ab [0] O<|.ab [2] O ?_;cases h;exact .rv O O ⟨O,O⟩ zw
theorem zYa:BV Tryz.prog 87:=en Tryz.func87 (by kernel_rfl)
def mD (BA:(List Int)) (GN:Int):Option (List Int):=
 bnd (sub BA (wrap .i64 (11+(wrap .i64 (GN*17)))) (wrap .i64 ((wrap .i64 (11+(wrap .i64 (GN*17))))+17))) fun l1=>some l1
theorem zFm {BA GN A1 c1 r} (h:mD BA GN=some r):
    AX Tryz.prog 87 [.slice A1 BA.length c1, .int .i64 GN] [.ro (BP AP A1 c1 BA)] (fun v F=>∃ A2 c2,v= .slice A2 r.length c2∧F= [.ro (BP AP A2 c2 r)]):=by
 refine AX.intro Tryz.func87 O O O fun w R=>?_;refine .ab [0,1] O<|.ab [0,5] O<|.a 4 O<|.bd h fun l1 hl1 h=>.sub (E:=(DC AP)) O O (.head _) O O O O O O O hl1 fun A2 c2=>.bf [4] [0] 1 O O ?_;cases h;exact .rv O O ⟨A2,c2,O,O⟩ (zk 1 1 [0] [] 0 O)
theorem zWs:BV Tryz.prog 122:=en Tryz.func122 (by kernel_rfl)
def mJ (CU:Int):Option Bool:=
 some (CU != 255)
theorem zCk {CU r} (h:mJ CU=some r):
    AX Tryz.prog 122 [.int .u8 CU] [] (Val (.bool r)):=by
 unfold mJ at h
 refine AX.intro Tryz.func122 O O O fun w R=>?_;refine .ab [0] O<|.ab [2] O ?_;cases h;exact .rv O O ⟨O,O⟩ zw
theorem Vd:BV Tryz.prog 157:=en Tryz.func157 (by kernel_rfl)
def sQ [AO] (AL:(List Int)):Option Int:=
 bnd (zI (τ:=Int ⊕ Unit) (fun (s1:Int)=>bif decide (s1<(AL.length:Int)) then (bnd (AU AL s1) fun x1=>bnd (mJ x1) fun r1=>bif r1 then (some (.done (.inl s1))) else (some (.next (wrap .i64 (s1+1))))) else (some (.done (.inr ())))) 0) fun o1=>wN o1 fun o2=>some (-1)
theorem mN [AO] {AL A1 c1 r} (h:sQ AL=some r):
    AX Tryz.prog 157 [.slice A1 AL.length c1, .func (.func 122) #[] #[]] [.ro (BP AP A1 c1 AL)] (Val (.int .i64 r)):=by
 refine AX.intro Tryz.func157 O O O fun w R=>?_;refine .ab [0,1] O<|.seq<|.ab [0,1,7,8] O<|.bd h fun o1 hl1 h=>.EJ 1 (fun (o2:Unit) (e2:Unit)=>[]) (fun o2 e2=>[]) O O (fun o2=>o1= .inr o2) ?_ ?_
 ·refine .block<|.BH hl1 0 (fun (s1:Int) (e1:Unit)=>[0,1,7, .s 8 (.int .i64 s1)]) (fun s1 e1=>[]) O O () (zb O) (fun _ w=>w) ?_;rintro s1 e1 st1 hm1 hd1 h1;refine .ae O<|.seq<|.cb h1 O (fun h1=>?_) (fun h1=>?_)
  ·refine .sk<|.pr [0,1,7,8] O<|.seq<|.block<|.ab [0,1,5,7,8] O<|.a 3 O<|.bd h1 fun x1 hx1 h1=>.FB hx1 0 O fun b1 ED=>.ld ED 0 0 O<|.bd h1 fun r1 hr1 h1=>.cv [] (zCk hr1) zWs O<|.bf [0,1,5,7,8,16] [] 1 O O<|.cb h1 O (fun h1=>?_) (fun h1=>?_)
   ·refine .EQ [4] [] 1 O O ?_;cases h1;cases hd1 _ rfl
    have h:some _=some _:=h;cases h;exact .rv O O ⟨O,O⟩ zw
   refine .skip<|.BF<|.AB<|.pr [0,1,7,8] O<|.region ?_;cases h1;exact .be O<|.ag () hm1 O zw
  refine .xq O ?_;cases h1;cases hd1 _ rfl
  exact .AB<|.DN () () O trivial (zl [] 1 O)
 rintro o2 e2 ho;subst ho;have h:=IV h;refine .ae O ?_;cases h;exact .rv O O ⟨O,O⟩ zw
theorem Ve:BV Tryz.prog 120:=en Tryz.func120 (by kernel_rfl)
def tI [AO] (AL:(List Int)):Option Bool:=
 bnd (sQ AL) fun r1=>some (decide (r1≥0))
theorem nL [AO] {AL A1 c1 r} (h:tI AL=some r):
    AX Tryz.prog 120 [.slice A1 AL.length c1, .func (.func 122) #[] #[]] [.ro (BP AP A1 c1 AL)] (Val (.bool r)):=by
 refine AX.intro Tryz.func120 O O O fun w R=>?_;refine .ab [0,1] O<|.a 2 O<|.bd h fun r1 hr1 h=>.cv [0] (mN hr1) Vd O<|.bf [4] [] 1 O O ?_;cases h;exact .rv O O ⟨O,O⟩ zw
theorem zVG:BV Tryz.prog 88:=en Tryz.func88 (by kernel_rfl)
def nH [AO] (BA:(List Int)):Option Bool:=
 bnd (tI BA) fun r1=>some (!r1)
theorem dO [AO] {BA A1 c1 r} (h:nH BA=some r):
    AX Tryz.prog 88 [.slice A1 BA.length c1] [.ro (BP AP A1 c1 BA)] (Val (.bool r)):=by
 refine AX.intro Tryz.func88 O O O fun w R=>?_;refine .ab [0] O<|.a 1 O<|.bd h fun r1 hr1 h=>.cv [0] (nL hr1) Ve O<|.bf [2] [] 1 O O ?_;cases h;exact .rv O O ⟨O,O⟩ zw
theorem Vf:BV Tryz.prog 57:=en Tryz.func57 (by kernel_rfl)
def sF (DX:zU):Option Bool:=
 bnd ((bif decide (DX.ID≤65534) then (bif decide (DX.Time≤4294967294) then (some (decide (DX.FC≤127))) else (some false)) else (some false):Option Bool)) fun o1=>some o1
theorem eL {DX r} (h:sF DX=some r):
    AX Tryz.prog 57 [.agg (jD DX).toArray] [] (Val (.bool r)):=by
 refine AX.intro Tryz.func57 O O O fun w R=>?_;refine .seq<|.region<|.box O O fun g1=>.b [1] O<|.seq<|.bd h fun o1 hj1 h=>.cu 1 [.s 2 (.bool o1)] [] O O ?_ ?_
 ·refine .region<|.p O O<|.lb 0 0 O<|.n 2 O<|.gs 6 hj1 O (fun hj1=>?_) (fun hj1=>?_)
  ·refine .n 1 O<|.BR O O<|.lb 1 0 O<|.n 3 O<|.gs 11 hj1 O (fun hj1=>?_) (fun hj1=>?_)
   ·refine .n 1 O<|.BR O O<|.lb 5 0 O ?_;cases hj1;exact .be O<|.hU O (zl [] 1 O)
   cases hj1;exact .be O<|.hU O (zl [] 1 O)
  cases hj1;exact .be O<|.hU O (zl [] 1 O)
 cases h;exact .rv O O ⟨O,O⟩ zw
theorem zYp:BV Tryz.prog 89:=en Tryz.func89 (by kernel_rfl)
def qO (BA:(List Int)):Option (zU × Int):=
 bif decide ((BA.length:Int)<16) then (some ((⟨0,0,0,0,0,0,false,(⟨0,0,0⟩:(dB Int))⟩:zU),4)) else (bnd ((bif decide ((BA.length:Int)>16) then (some true) else (bnd (AU BA 2) fun x1=>bif (x1 != 2) then (some true) else (bnd (AU BA 9) fun x2=>some (x2 != 4))):Option Bool)) fun o1=>bif o1 then (some ((⟨0,0,0,0,0,0,false,(⟨0,0,0⟩:(dB Int))⟩:zU),6)) else (bnd (AU BA 0) fun x3=>bnd (AU BA 1) fun x4=>bnd (AU BA 3) fun x5=>bnd (AU BA 4) fun x6=>bnd (AU BA 5) fun x7=>bnd (AU BA 6) fun x8=>bnd (AU BA 7) fun x9=>bnd (AU BA 8) fun x10=>bnd (AU BA 10) fun x11=>bnd (AU BA 11) fun x12=>bnd (AU BA 12) fun OJ=>bnd (AU BA 12) fun x14=>bnd (sub BA 13 (BA.length:Int)) fun l1=>bnd (AU l1 0) fun x15=>bnd (AU l1 1) fun x16=>bnd (AU l1 2) fun x17=>bnd (sF (⟨CZ .u16 (wrap .u16 x3) (yM .u16 (wrap .u16 x4) 8),CZ .u32 (CZ .u32 (CZ .u32 (wrap .u32 x5) (yM .u32 (wrap .u32 x6) 8)) (yM .u32 (wrap .u32 x7) 16)) (yM .u32 (wrap .u32 x8) 24),CZ .u16 (wrap .u16 x9) (yM .u16 (wrap .u16 x10) 8),x11,x12,mC .u8 OJ 128,((vL .u8 x14 128) != 0),(⟨x15,x16,x17⟩:(dB Int))⟩:zU)) fun r1=>bif !r1 then (some ((⟨0,0,0,0,0,0,false,(⟨0,0,0⟩:(dB Int))⟩:zU),1)) else (some ((⟨CZ .u16 (wrap .u16 x3) (yM .u16 (wrap .u16 x4) 8),CZ .u32 (CZ .u32 (CZ .u32 (wrap .u32 x5) (yM .u32 (wrap .u32 x6) 8)) (yM .u32 (wrap .u32 x7) 16)) (yM .u32 (wrap .u32 x8) 24),CZ .u16 (wrap .u16 x9) (yM .u16 (wrap .u16 x10) 8),x11,x12,mC .u8 OJ 128,((vL .u8 x14 128) != 0),(⟨x15,x16,x17⟩:(dB Int))⟩:zU),0))))
theorem zFP {BA A1 c1 r} (h:qO BA=some r):
    AX Tryz.prog 89 [.slice A1 BA.length c1] [.ro (BP AP A1 c1 BA)] (Val (.tuple #[.agg (jD r.1).toArray, .int .i64 r.2])):=by
 refine AX.intro Tryz.func89 O O O fun w R=>?_;refine .seq<|.region<|.alloc O O fun g1=>.b [0,2] O<|.seq<|.block<|.ab [0,2,5] O<|.cb h O (fun h=>?_) (fun h=>?_)
 ·refine .a 1 O<|.sb 0 0 O<|.bf [2,3] [0] 1 O O ?_;cases h;exact .rt O Tryz.results89 (.cell O (.head _) O (.tmp O .nil)) O ⟨O,O⟩ (zl [] 1 O)
 refine .seq<|.bd h fun o1 hj1 h=>.cu 0 [0,2, .s 10 (.bool o1)] [] O O ?_ ?_
 ·refine .region<|.n 4 O<|.gs 14 hj1 O (fun hj1=>?_) (fun hj1=>?_)
  ·cases hj1;exact .be O<|.hU O zw
  refine .n 1 O<|.BR O O<|.bd hj1 fun x1 hx1 hj1=>.FB hx1 1 O fun b1 ED=>.BR O O<|.ld ED 0 0 O<|.n 3 O<|.gs 20 hj1 O (fun hj1=>?_) (fun hj1=>?_)
  ·cases hj1;exact .be O<|.hU O (zl [] 1 O)
  refine .n 1 O<|.BR O O<|.bd hj1 fun x2 hx2 hj1=>.FB hx2 2 O fun b2 JA=>.BR O O<|.ld JA 0 0 O ?_;cases hj1;exact .be O<|.hU O (zl [] 2 O)
 refine .cb h O (fun h=>?_) (fun h=>?_)
 ·refine .a 1 O<|.sb 0 0 O<|.bf [2,3] [0] 1 O O ?_;cases h;exact .rt O Tryz.results89 (.cell O (.head _) O (.tmp O .nil)) O ⟨O,O⟩ (zl [] 1 O)
 refine .skip<|.BF<|.AB<|.pr [0,2] O<|.seq<|.bd h fun x3 hx3 h=>.bd h fun x4 hx4 h=>.bd h fun x5 hx5 h=>.bd h fun x6 hx6 h=>.bd h fun x7 hx7 h=>.bd h fun x8 JL h=>.bd h fun x9 ND h=>.bd h fun x10 JM h=>.bd h fun x11 KI h=>.bd h fun x12 KJ h=>.bd h fun OJ KL h=>.bd h fun x14 MO h=>.bd h fun l1 hl1 h=>.bd h fun x15 OL h=>.bd h fun x16 hx16 h=>.bd h fun x17 OM h=>.BG (iN [0,4,8,12,16,20,24,28,32,36,40,44,48,52,56,60,64,68,72,76,80,84,88,92,96,100,104,108,112,116,120,124,128,132,136,140,144,148,152,156,160,164,168,172,176,180,184,188,192,196,200,204,208,212,216,220,224,228,232] (.alt (iN [239] (.alt (iN [243,244] (iN [251] (iN [255] .nil))) (iN [251] (iN [243,244] (iN [255] .nil))))) (iN [251] (iN [239] (iN [243,244] (iN [255] .nil)))))) _ mixed (by kernel_rfl) zw<|.EC (Y:=?JE) 0 (fun (e:Nat × Nat × Nat × Option Addr × Nat × Nat × Nat × Nat × Nat × Nat × Nat × Nat × Nat × Nat × Nat × Nat × Nat × Nat × Nat × Nat × Nat × Nat × Nat × Nat × Nat × Nat × Nat × Nat × Nat)=>[2, .s 4 (.pointer (some ⟨e.1,0,none⟩)), .s 36 (.int .u16 (CZ .u16 (wrap .u16 x3) (yM .u16 (wrap .u16 x4) 8))), .s 58 (.int .u32 (CZ .u32 (CZ .u32 (CZ .u32 (wrap .u32 x5) (yM .u32 (wrap .u32 x6) 8)) (yM .u32 (wrap .u32 x7) 16)) (yM .u32 (wrap .u32 x8) 24))), .s 68 (.int .u16 (CZ .u16 (wrap .u16 x9) (yM .u16 (wrap .u16 x10) 8))), .s 71 (.int .u8 x11), .s 74 (.int .u8 x12), .s 78 (.int .u8 (mC .u8 OJ 128)), .s 83 (.bool ((vL .u8 x14 128) != 0)), .s 87 (.agg #[.int .u8 x15, .int .u8 x16, .int .u8 x17]), .s 88 (.agg #[.int .u16 (CZ .u16 (wrap .u16 x3) (yM .u16 (wrap .u16 x4) 8)), .int .u32 (CZ .u32 (CZ .u32 (CZ .u32 (wrap .u32 x5) (yM .u32 (wrap .u32 x6) 8)) (yM .u32 (wrap .u32 x7) 16)) (yM .u32 (wrap .u32 x8) 24)), .int .u16 (CZ .u16 (wrap .u16 x9) (yM .u16 (wrap .u16 x10) 8)), .int .u8 x11, .int .u8 x12, .int .u8 (mC .u8 OJ 128), .bool ((vL .u8 x14 128) != 0), .int .u8 x15, .int .u8 x16, .int .u8 x17])]) (fun e=>[.res (Box e.1 76 [.int .u16 0, .int .u32 0, .int .u16 0, .int .u8 0, .int .u8 0, .int .u8 0, .bool false, .int .u8 0, .int .u8 0, .int .u8 0]), .ro (vJ e.2.1 e.2.2.1 [.int .u8 x15, .int .u8 x16, .int .u8 x17]), .ro (BP AP e.2.2.2.1 e.2.2.2.2.1 l1), .ro (vJ e.2.2.2.2.2.1 e.2.2.2.2.2.2.1 [.int .u8 x14]), .ro (vJ e.2.2.2.2.2.2.2.1 e.2.2.2.2.2.2.2.2.1 [.int .u8 OJ]), .ro (vJ e.2.2.2.2.2.2.2.2.2.1 e.2.2.2.2.2.2.2.2.2.2.1 [.int .u8 x12]), .ro (vJ e.2.2.2.2.2.2.2.2.2.2.2.1 e.2.2.2.2.2.2.2.2.2.2.2.2.1 [.int .u8 x11]), .ro (vJ e.2.2.2.2.2.2.2.2.2.2.2.2.2.1 e.2.2.2.2.2.2.2.2.2.2.2.2.2.2.1 [.int .u8 x10]), .ro (vJ e.2.2.2.2.2.2.2.2.2.2.2.2.2.2.2.1 e.2.2.2.2.2.2.2.2.2.2.2.2.2.2.2.2.1 [.int .u8 x9]), .ro (vJ e.2.2.2.2.2.2.2.2.2.2.2.2.2.2.2.2.2.1 e.2.2.2.2.2.2.2.2.2.2.2.2.2.2.2.2.2.2.1 [.int .u8 x8]), .ro (vJ e.2.2.2.2.2.2.2.2.2.2.2.2.2.2.2.2.2.2.2.1 e.2.2.2.2.2.2.2.2.2.2.2.2.2.2.2.2.2.2.2.2.1 [.int .u8 x7]), .ro (vJ e.2.2.2.2.2.2.2.2.2.2.2.2.2.2.2.2.2.2.2.2.2.1 e.2.2.2.2.2.2.2.2.2.2.2.2.2.2.2.2.2.2.2.2.2.2.1 [.int .u8 x6]), .ro (vJ e.2.2.2.2.2.2.2.2.2.2.2.2.2.2.2.2.2.2.2.2.2.2.2.1 e.2.2.2.2.2.2.2.2.2.2.2.2.2.2.2.2.2.2.2.2.2.2.2.2.1 [.int .u8 x5]), .ro (vJ e.2.2.2.2.2.2.2.2.2.2.2.2.2.2.2.2.2.2.2.2.2.2.2.2.2.1 e.2.2.2.2.2.2.2.2.2.2.2.2.2.2.2.2.2.2.2.2.2.2.2.2.2.2.1 [.int .u8 x4]), .ro (vJ e.2.2.2.2.2.2.2.2.2.2.2.2.2.2.2.2.2.2.2.2.2.2.2.2.2.2.2.1 e.2.2.2.2.2.2.2.2.2.2.2.2.2.2.2.2.2.2.2.2.2.2.2.2.2.2.2.2 [.int .u8 x3])]) O O (fun DT=>?EW) ?EX
 case EW=>
  refine .EC (Y:=?LX) 0 (fun (e:Nat × Nat × Nat × Option Addr × Nat × Nat × Nat × Nat × Nat × Nat × Nat × Nat × Nat × Nat × Nat × Nat × Nat × Nat × Nat × Nat × Nat × Nat × Nat × Nat × Nat × Nat × Nat × Nat × Nat)=>[2, .s 4 (.pointer (some ⟨e.2.2.1,0,none⟩)), .s 36 (.int .u16 (CZ .u16 (wrap .u16 x3) (yM .u16 (wrap .u16 x4) 8))), .s 58 (.int .u32 (CZ .u32 (CZ .u32 (CZ .u32 (wrap .u32 x5) (yM .u32 (wrap .u32 x6) 8)) (yM .u32 (wrap .u32 x7) 16)) (yM .u32 (wrap .u32 x8) 24))), .s 68 (.int .u16 (CZ .u16 (wrap .u16 x9) (yM .u16 (wrap .u16 x10) 8))), .s 71 (.int .u8 x11), .s 74 (.int .u8 x12), .s 78 (.int .u8 (mC .u8 OJ 128)), .s 83 (.bool ((vL .u8 x14 128) != 0)), .s 86 (.pointer (some ⟨e.1,e.2.1,none⟩))]) (fun e=>[.res (Box e.2.2.1 76 [.int .u16 0, .int .u32 0, .int .u16 0, .int .u8 0, .int .u8 0, .int .u8 0, .bool false, .int .u8 0, .int .u8 0, .int .u8 0]), .ro (vJ e.1 e.2.1 [.int .u8 x15, .int .u8 x16, .int .u8 x17]), .ro (BP AP e.2.2.2.1 e.2.2.2.2.1 l1), .ro (vJ e.2.2.2.2.2.1 e.2.2.2.2.2.2.1 [.int .u8 x14]), .ro (vJ e.2.2.2.2.2.2.2.1 e.2.2.2.2.2.2.2.2.1 [.int .u8 OJ]), .ro (vJ e.2.2.2.2.2.2.2.2.2.1 e.2.2.2.2.2.2.2.2.2.2.1 [.int .u8 x12]), .ro (vJ e.2.2.2.2.2.2.2.2.2.2.2.1 e.2.2.2.2.2.2.2.2.2.2.2.2.1 [.int .u8 x11]), .ro (vJ e.2.2.2.2.2.2.2.2.2.2.2.2.2.1 e.2.2.2.2.2.2.2.2.2.2.2.2.2.2.1 [.int .u8 x10]), .ro (vJ e.2.2.2.2.2.2.2.2.2.2.2.2.2.2.2.1 e.2.2.2.2.2.2.2.2.2.2.2.2.2.2.2.2.1 [.int .u8 x9]), .ro (vJ e.2.2.2.2.2.2.2.2.2.2.2.2.2.2.2.2.2.1 e.2.2.2.2.2.2.2.2.2.2.2.2.2.2.2.2.2.2.1 [.int .u8 x8]), .ro (vJ e.2.2.2.2.2.2.2.2.2.2.2.2.2.2.2.2.2.2.2.1 e.2.2.2.2.2.2.2.2.2.2.2.2.2.2.2.2.2.2.2.2.1 [.int .u8 x7]), .ro (vJ e.2.2.2.2.2.2.2.2.2.2.2.2.2.2.2.2.2.2.2.2.2.1 e.2.2.2.2.2.2.2.2.2.2.2.2.2.2.2.2.2.2.2.2.2.2.1 [.int .u8 x6]), .ro (vJ e.2.2.2.2.2.2.2.2.2.2.2.2.2.2.2.2.2.2.2.2.2.2.2.1 e.2.2.2.2.2.2.2.2.2.2.2.2.2.2.2.2.2.2.2.2.2.2.2.2.1 [.int .u8 x5]), .ro (vJ e.2.2.2.2.2.2.2.2.2.2.2.2.2.2.2.2.2.2.2.2.2.2.2.2.2.1 e.2.2.2.2.2.2.2.2.2.2.2.2.2.2.2.2.2.2.2.2.2.2.2.2.2.2.1 [.int .u8 x4]), .ro (vJ e.2.2.2.2.2.2.2.2.2.2.2.2.2.2.2.2.2.2.2.2.2.2.2.2.2.2.2.1 e.2.2.2.2.2.2.2.2.2.2.2.2.2.2.2.2.2.2.2.2.2.2.2.2.2.2.2.2 [.int .u8 x3])]) O O (fun FK=>?IJ) ?IK
  case IJ=>
   refine .yn 1 O<|.FV EI hx3 fun b3 JY QG=>.AQ (fun _ w=>Sat.EP QG EI hx3 w) ?_;have hc1:=fun w h=>Sat.EP QG EI hx3 ((fun (w:World) (h:Sat (.res (Box g1 76 [.int .u16 0, .int .u32 0, .int .u16 0, .int .u8 0, .int .u8 0, .int .u8 0, .bool false, .int .u8 0, .int .u8 0, .int .u8 0]):: .ro (BP AP A1 c1 BA)::R) w)=>h) w h);refine .IG (fun _ h=>h) (Rd.LK (E:=AP) QG hx3 O O O O O O O) O<|.IG hc1 (Rd.load JY 0 O (.head _) O O) O<|.yn 2 O<|.FV (zm 2 O) hx4 fun b4 KN gq=>.AQ (fun _ w=>Sat.EP gq (zm 2 O) hx4 w) ?_;have hc2:=fun w h=>Sat.EP gq (zm 2 O) hx4 (hc1 w h);refine .IG (fun _ h=>h) (Rd.LK (E:=AP) gq hx4 O O O O O O O) O<|.IG hc2 (Rd.load KN 0 O (.head _) O O) O<|.yn 4 O<|.FV (zm 3 O) hx5 fun b5 NU QH=>.AQ (fun _ w=>Sat.EP QH (zm 3 O) hx5 w) ?_;have hc3:=fun w h=>Sat.EP QH (zm 3 O) hx5 (hc2 w h);refine .IG (fun _ h=>h) (Rd.LK (E:=AP) QH hx5 O O O O O O O) O<|.IG hc3 (Rd.load NU 0 O (.head _) O O) O<|.yn 2 O<|.FV (zm 4 O) hx6 fun b6 SI QI=>.AQ (fun _ w=>Sat.EP QI (zm 4 O) hx6 w) ?_;have hc4:=fun w h=>Sat.EP QI (zm 4 O) hx6 (hc3 w h);refine .IG (fun _ h=>h) (Rd.LK (E:=AP) QI hx6 O O O O O O O) O<|.IG hc4 (Rd.load SI 0 O (.head _) O O) O<|.yn 4 O<|.FV (zm 5 O) hx7 fun b7 UR QJ=>.AQ (fun _ w=>Sat.EP QJ (zm 5 O) hx7 w) ?_;have hc5:=fun w h=>Sat.EP QJ (zm 5 O) hx7 (hc4 w h);refine .IG (fun _ h=>h) (Rd.LK (E:=AP) QJ hx7 O O O O O O O) O<|.IG hc5 (Rd.load UR 0 O (.head _) O O) O<|.yn 4 O<|.FV (zm 6 O) JL fun b8 UU MB=>.AQ (fun _ w=>Sat.EP MB (zm 6 O) JL w) ?_;have hc6:=fun w h=>Sat.EP MB (zm 6 O) JL (hc5 w h);refine .IG (fun _ h=>h) (Rd.LK (E:=AP) MB JL O O O O O O O) O<|.IG hc6 (Rd.load UU 0 O (.head _) O O) O<|.yn 4 O<|.FV (zm 7 O) ND fun b9 gu gy=>.AQ (fun _ w=>Sat.EP gy (zm 7 O) ND w) ?_;have hc7:=fun w h=>Sat.EP gy (zm 7 O) ND (hc6 w h);refine .IG (fun _ h=>h) (Rd.LK (E:=AP) gy ND O O O O O O O) O<|.IG hc7 (Rd.load gu 0 O (.head _) O O) O<|.yn 2 O<|.FV (zm 8 O) JM fun b10 QK UW=>.AQ (fun _ w=>Sat.EP UW (zm 8 O) JM w) ?_;have hc8:=fun w h=>Sat.EP UW (zm 8 O) JM (hc7 w h);refine .IG (fun _ h=>h) (Rd.LK (E:=AP) UW JM O O O O O O O) O<|.IG hc8 (Rd.load QK 0 O (.head _) O O) O<|.yn 4 O<|.FV (zm 9 O) KI fun b11 QL UX=>.AQ (fun _ w=>Sat.EP UX (zm 9 O) KI w) ?_;have hc9:=fun w h=>Sat.EP UX (zm 9 O) KI (hc8 w h);refine .IG (fun _ h=>h) (Rd.LK (E:=AP) UX KI O O O O O O O) O<|.IG hc9 (Rd.load QL 0 O (.head _) O O) O<|.yn 1 O<|.FV (zm 10 O) KJ fun b12 QM UY=>.AQ (fun _ w=>Sat.EP UY (zm 10 O) KJ w) ?_;have Bq:=fun w h=>Sat.EP UY (zm 10 O) KJ (hc9 w h);refine .IG (fun _ h=>h) (Rd.LK (E:=AP) UY KJ O O O O O O O) O<|.IG Bq (Rd.load QM 0 O (.head _) O O) O<|.yn 1 O<|.FV (zm 11 O) KL fun b13 QN UZ=>.AQ (fun _ w=>Sat.EP UZ (zm 11 O) KL w) ?_;have Bv:=fun w h=>Sat.EP UZ (zm 11 O) KL (Bq w h);refine .IG (fun _ h=>h) (Rd.LK (E:=AP) UZ KL O O O O O O O) O<|.IG Bv (Rd.load QN 0 O (.head _) O O) O<|.yn 2 O<|.FV (zm 12 O) MO fun b14 QO VA=>.AQ (fun _ w=>Sat.EP VA (zm 12 O) MO w) ?_;have hc12:=fun w h=>Sat.EP VA (zm 12 O) MO (Bv w h);refine .IG (fun _ h=>h) (Rd.LK (E:=AP) VA MO O O O O O O O) O<|.IG hc12 (Rd.load QO 0 O (.head _) O O) O<|.yn 3 O<|.LU (zm 13 O) hl1 fun A2 c2 hS1=>?_;have hc13:=fun w h=>Sat.QA hS1 (zm 13 O) hl1 (hc12 w h);refine .IG hc13 (Rd.sub hS1 hl1 (zm 14 O) O O O O O O O O) O<|.GZ ?_ ?_
   ·refine .BZ<|.s2a OL hx16 OM O O (.head _) O O O fun b15 NV=>.xk (zl [] 14 O)<|.GZ ?_ ?_
    ·refine .BZ<|.ld NV 0 0 O<|.xk (zl [] 14 O)<|.yn 1 O<|.BZ<|.alloc O O fun g2=>.xk (zl [] 15 O) ?_;refine DT _ _ (g2,b15,NV,A2,c2,b14,QO,b13,QN,b12,QM,b11,QL,b10,QK,b9,gu,b8,UU,b7,UR,b6,SI,b5,NU,b4,KN,b3,JY) ?_ ?_
     ·exact ⟨O,O,O,O,O,O,O,O,O,O,O,trivial⟩
     exact fun _ w=>w
    refine .BZ<|.alloc O O fun g2=>.xk (zl [] 15 O) ?_;refine FK _ _ (b15,NV,g2,A2,c2,b14,QO,b13,QN,b12,QM,b11,QL,b10,QK,b9,gu,b8,UU,b7,UR,b6,SI,b5,NU,b4,KN,b3,JY) ?_ ?_
    ·exact ⟨O,O,O,O,O,O,O,O,O,O,trivial⟩
    exact fun _ w=>w
   refine .BZ<|.alloc O O fun g2=>.xk (zl [] 14 O)<|.BZ<|.s2a OL hx16 OM O O EI O O O fun b15 NV=>.xk (zl [] 15 O) ?_;refine FK _ _ (b15,NV,g2,A2,c2,b14,QO,b13,QN,b12,QM,b11,QL,b10,QK,b9,gu,b8,UU,b7,UR,b6,SI,b5,NU,b4,KN,b3,JY) ?_ ?_
   ·exact ⟨O,O,O,O,O,O,O,O,O,O,trivial⟩
   exact fun _ w=>(w.sl [1] 0 O)
  case IK=>
   rintro ⟨b15,NV,g2,A2,c2,b14,QO,b13,QN,b12,QM,b11,QL,b10,QK,b9,gu,b8,UU,b7,UR,b6,SI,b5,NU,b4,KN,b3,JY⟩;refine .nm 17 O<|.BZ<|.ld NV 0 1 O<|.xk (zl [] 15 O)<|.yn 1 O ?_;refine DT _ _ (g2,b15,NV,A2,c2,b14,QO,b13,QN,b12,QM,b11,QL,b10,QK,b9,gu,b8,UU,b7,UR,b6,SI,b5,NU,b4,KN,b3,JY) ?_ ?_
   ·exact ⟨O,O,O,O,O,O,O,O,O,O,O,trivial⟩
   exact fun _ w=>w
 case EX=>
  rintro ⟨g2,b15,NV,A2,c2,b14,QO,b13,QN,b12,QM,b11,QL,b10,QK,b9,gu,b8,UU,b7,UR,b6,SI,b5,NU,b4,KN,b3,JY⟩;refine .nm 17 O<|.BZ<|.sb 0 0 O<|.xk (zl [] 15 O)<|.BX<|.AB<|.pf [2,4] [0,14] 15 O O<|.seq<|.seq<|.region<|.lb 0 0 O<|.bd h fun r1 hr1 h=>.cv [] (eL hr1) Vf O<|.b [2,4,91] O<|.cb h O (fun h=>?_) (fun h=>?_)
  ·refine .a 1 O<|.sb 0 1 O<|.bf [2,3] [0] 1 O O ?_;cases h;exact .rt O Tryz.results89 (.cell O (.head _) O (.tmp O .nil)) O ⟨O,O⟩ (zl [] 1 O)
  refine .sk<|.pr [2,4] O<|.seq<|.region<|.lb 0 0 O<|.sb 0 1 O<|.bf [2,3] [0] 1 O O ?_;cases h;exact .rt O Tryz.results89 (.cell O (.head _) O (.tmp O .nil)) O ⟨O,O⟩ (zl [] 1 O)
theorem zVa:BV Tryz.prog 61:=en Tryz.func61 (by kernel_rfl)
def tO (OO:Int):Option Int:=
 bif (OO==65534) then (some 1) else (some (wrap .u16 (OO+1)))
theorem fQ {OO r} (h:tO OO=some r):
    AX Tryz.prog 61 [.int .u16 OO] [] (Val (.int .u16 r)):=by
 refine AX.intro Tryz.func61 O O O fun w R=>?_;refine .ab [0] O<|.seq<|.ab [0,4] O<|.cb h O (fun h=>?_) (fun h=>?_)
 ·refine .ab [2] O ?_;cases h;exact .rv O O ⟨O,O⟩ zw
 refine .sk<|.pr [0] O<|.ab [2] O ?_;cases h;exact .rv O O ⟨O,O⟩ zw
theorem zYH:BV Tryz.prog 40:=en Tryz.func40 (by kernel_rfl)
def tY [AO] (BJ:xG) (HY:(List Int)) (MC:mS):Option xG:=
 bnd ((bif (MC.sequence==BJ.newest) then (some MC.Jf) else (some BJ.next):Option Int)) fun o1=>bnd (nB (HY.length:Int)) fun r1=>bnd (zI (τ:=xG) (fun (s1:xG × Int)=>bif decide (s1.2<r1) then (bnd (mD HY s1.2) fun r2=>bnd ((bnd ((bif (MC.sequence==BJ.newest) then (bnd (nH r2) fun r3=>some (!r3)) else (some false):Option Bool)) fun o4=>bif o4 then (some (wrap .i64 (s1.2+1))) else (some s1.1.used):Option Int)) fun o3=>bnd (sub r2 0 16) fun l1=>bnd (qO l1) fun r4=>bnd ((bnd (AU r2 16) fun x1=>bif (x1 != 0) then (some true) else (bif (r4.2 != 0) then (some true) else (some (r4.1.ID==0))):Option Bool)) fun o5=>bif o5 then (some (.next ((⟨s1.1.d,s1.1.first,s1.1.BL,s1.1.overwrite,s1.1.newest,s1.1.tail,o3,s1.1.next,s1.1.records,s1.1.full,s1.1.number,s1.1.held,s1.1.ended⟩:xG),wrap .i64 (s1.2+1)))) else (bnd (app 32 s1.1.records [(⟨MC.sequence,r4.1⟩:gY)]) fun l2=>bif (MC.sequence==BJ.newest) then (bnd (tO r4.1.ID) fun r5=>some (.next ((⟨s1.1.d,s1.1.first,s1.1.BL,s1.1.overwrite,s1.1.newest,s1.1.tail,o3,r5,l2,s1.1.full,s1.1.number,s1.1.held,s1.1.ended⟩:xG),wrap .i64 (s1.2+1)))) else (some (.next ((⟨s1.1.d,s1.1.first,s1.1.BL,s1.1.overwrite,s1.1.newest,s1.1.tail,o3,s1.1.next,l2,s1.1.full,s1.1.number,s1.1.held,s1.1.ended⟩:xG),wrap .i64 (s1.2+1)))))) else (some (.done s1.1))) ((⟨BJ.d,BJ.first,BJ.BL,BJ.overwrite,BJ.newest,BJ.tail,BJ.used,o1,BJ.records,BJ.full,BJ.number,BJ.held,BJ.ended⟩:xG),0)) fun o2=>some o2
theorem zBq [AO] {BJ HY MC A1 c1 A2 c2 BN ES r} (h:tY BJ HY MC=some r):
    AX Tryz.prog 40 [.pointer (some ⟨BN,0,none⟩), .slice A2 HY.length c2, .agg #[.int .i64 MC.sequence, .int .i64 MC.tail, .int .u16 MC.Jf]] [.ro (BP AP A2 c2 HY), .res (Box BN 124 (wR BJ ES A1 c1)), .res (zD xV 155 A1 c1 BJ.records)] (fun v F=>∃ A3 c3,v= .tuple #[]∧F= [.res (Box BN 124 (wR r ES A3 c3)), .res (zD xV 155 A3 c3 r.records)]):=by
 refine AX.intro Tryz.func40 O O O fun w R=>?_;refine .seq<|.region<|.box O O fun g1=>.b [0,1,5] O<|.seq<|.regionF mixed (by kernel_rfl)<|.p O O<|.lb 0 0 O<|.n 3 O<|.lb 4 2 O<|.bq [0,1,5,6] O<|.seq<|.bd h fun o1 hj1 h=>.DZ 3 (fun (e1:Unit)=>[0,1,5,6]) (fun e1=>[0,1, .res (Box BN 124 [.pointer (XD BJ.d ES), .int .i64 BJ.first, .int .i64 BJ.BL, .bool BJ.overwrite, .int .i64 BJ.newest, .int .i64 BJ.tail, .int .i64 BJ.used, .int .u16 o1, .slice A1 BJ.records.length c1, .bool BJ.full, .int .u16 BJ.number, .bool BJ.held, .bool BJ.ended])]) O O ?_ ?_
 ·refine .ae O<|.cb hj1 O (fun hj1=>?_) (fun hj1=>?_)
  ·refine .region<|.n 2 O<|.lb 2 0 O<|.n 2 O<|.sb 7 2 O<|.done ?_;cases hj1;exact .AB<|.hU O (zl [1,1] 0 O)
  cases hj1;exact .sk<|.hU O zw
 rintro e1;refine .a 2 O<|.bd h fun r1 hr1 h=>.cv [] (cC hr1) zVz O<|.b [0,1,5,6,26,27] O<|.bd h fun o2 hl1 h=>.DV<|.DZ 4 (fun (e3:Option Addr × Nat)=>[]) (fun e3=>[.res (zD xV 155 e3.1 e3.2 o2.records), .res (Box BN 124 (wR o2 ES e3.1 e3.2))]) O O ?_ ?_
 ·refine .block<|.BH hl1 4 (fun (s1:xG × Int) (e2:Option Addr × Nat)=>[0,1,5,6,26, .s 27 (.int .i64 s1.2)]) (fun s1 e2=>[.res (zD xV 155 e2.1 e2.2 s1.1.records),0,1, .res (Box BN 124 (wR s1.1 ES e2.1 e2.2))]) O O (A1,c1) (zb O) (zl [3] 0 O) ?_;rintro s1 ⟨A3,c3⟩ st1 hm1 hd1 h1;refine .ae O<|.seq<|.cb h1 O (fun h1=>?_) (fun h1=>?_)
  ·refine .sk<|.pr [0,1,5,6,26,27] O<|.seq<|.block<|.ab [0,1,5,6,7,26,27] O<|.a 2 O<|.bd h1 fun r2 hr2 h1=>.cr 5 [2] [] 0 (zFm hr2) zYa O fun A5 c5=>.b [0,1,5,6,7,8,26,27] O<|.seq<|.bd h1 fun o3 hj2 h1=>.cu 5 [0,1,5,6,8,26,27] [0,1,2,3, .res (Box BN 124 [.pointer (XD s1.1.d ES), .int .i64 s1.1.first, .int .i64 s1.1.BL, .bool s1.1.overwrite, .int .i64 s1.1.newest, .int .i64 s1.1.tail, .int .i64 o3, .int .u16 s1.1.next, .slice A3 s1.1.records.length c3, .bool s1.1.full, .int .u16 s1.1.number, .bool s1.1.held, .bool s1.1.ended])] O O ?_ ?_
   ·refine .seq<|.bd hj2 fun o4 hj3 hj2=>.cu 0 [0,1,5,6,7,8,26,27, .s 38 (.bool o4)] [] O O ?_ ?_
    ·refine .region<|.n 2 O<|.gs 34 hj3 O (fun hj3=>?_) (fun hj3=>?_)
     ·refine .n 1 O<|.BR O O<|.bd hj3 fun r3 hr3 hj3=>.cv [0] (dO hr3) zVG O ?_;cases hj3;exact .be O<|.hU O zw
     cases hj3;exact .be O<|.hU O zw
    refine .cb hj2 O (fun hj2=>?_) (fun hj2=>?_)
    ·refine .region<|.n 5 O<|.sb 6 4 O<|.done ?_;cases hj2;exact .AB<|.hU O (zl [1,1,1,1] 0 O)
    cases hj2;exact .sk<|.hU O zw
   refine .a 1 O<|.bd h1 fun l1 hl1 h1=>.sub (E:=(DC AP)) O O (.head _) O O O O O O O hl1 fun A6 c6=>.bd h1 fun r4 hr4 h1=>.cv [0] (zFP hr4) zYp O<|.n 3 O<|.alloc O O fun g2=>.sb 0 0 O<|.bf [0,1,5,6,8,9,10,26,27] [0] 1 O O<|.seq<|.seq<|.bd h1 fun o5 EL h1=>.cu 2 [0,1,5,6,9,26,27, .s 62 (.bool o5)] [0] O O ?_ ?_
   ·refine .region<|.p O O<|.bd EL fun x1 hx1 EL=>.FB hx1 1 O fun b1 ED=>.ld ED 0 0 O<|.n 2 O<|.gs 54 EL O (fun EL=>?_) (fun EL=>?_)
    ·cases EL;exact .be O<|.hU O (zl [1] 2 O)
    refine .n 4 O<|.gs 58 EL O (fun EL=>?_) (fun EL=>?_)
    ·cases EL;exact .be O<|.hU O (zl [1] 2 O)
    refine .n 1 O<|.BR O O<|.lb 0 1 O ?_;cases EL;exact .be O<|.hU O (zl [1] 2 O)
   refine .cb h1 O (fun h1=>?_) (fun h1=>?_)
   ·refine .xq O<|.AB<|.pf [0,1,5,6,26,27] [] 1 O O<|.region ?_;cases h1;exact .be O<|.ag (A3,c3) hm1 O zw
   refine .sk<|.pr [0,1,5,6,9,26,27] O<|.seq<|.bd h1 fun l2 hl2 h1=>.BG (iN [0,4,8,12,20,24,28,32] (.alt (iN [19] (iN [39] (iN [43,44,48] (iN [55] .nil)))) (iN [39] (iN [19] (iN [43,44,48] (iN [55] .nil)))))) _ mixed (by kernel_rfl) (zl [0,1,1] 2 O)<|.EC (Y:=?JE) 0 (fun (e:Nat)=>[0,1,5,6,9,26,27, .s 63 (.pointer (some ⟨BN,0,none⟩)), .s 67 (.slice A3 s1.1.records.length c3), .s 72 (.slice (some ⟨e,0,none⟩) 1 1)]) (fun e=>[.res (Box e 155 [.int .i64 MC.sequence, .int .u16 r4.1.ID, .int .u32 r4.1.Time, .int .u16 r4.1.DF, .int .u8 r4.1.DI, .int .u8 r4.1.EU, .int .u8 r4.1.FC, .bool r4.1.CY, .int .u8 r4.1.Data.e0, .int .u8 r4.1.Data.e1, .int .u8 r4.1.Data.e2])]) O O (fun DT=>?EW) ?EX
   case EW=>
    refine .yn 5 O<|.yl 0 1 O<|.yl 0 0 O<|.yn 1 O<|.GZ ?_ ?_
    ·refine .BZ<|.lb 8 4 O<|.xk (zl [0,1,1] 2 O)<|.BZ<|.bS O fun g3=>.xk (zl [1,2,2] 3 O) ?_;refine DT _ _ g3 ?_ ?_
     ·exact ⟨O,O,O,O,O,O,O,O,O,O,trivial⟩
     exact fun _ w=>w
    refine .BZ<|.bS O fun g3=>.xk (zl [1,2,2] 3 O)<|.BZ<|.lb 8 5 O<|.xk (zl [1,2,2] 3 O) ?_;refine DT _ _ g3 ?_ ?_
    ·exact ⟨O,O,O,O,O,O,O,O,O,O,trivial⟩
    exact fun _ w=>w
   case EX=>
    rintro g3;refine .nm 6 O<|.BZ<|.app (E:=xV) hl2 O O O (FX 2 O) O O O O O O O O (oP (.head _) O O) O O fun A7 c7=>.xk (zl [2,2,2] 3 O)<|.yn 2 O<|.BZ<|.sb 8 5 O<|.xk (zl [] 3 O)<|.BX<|.AB<|.pf [0,1,5,6,9,26,27] [0,0] 1 O O<|.ae O<|.cb h1 O (fun h1=>?_) (fun h1=>?_)
    ·refine .region<|.n 2 O<|.lb 0 2 O<|.bd h1 fun r5 JF h1=>.cv [] (fQ JF) zVa O<|.n 2 O<|.sb 7 0 O<|.done<|.BF<|.AB<|.pf [0,1,5,6,26,27] [0,0] 1 O O<|.region ?_;cases h1;exact .be O<|.ag (A7,c7) hm1 O (zl [1,1,1] 0 O)
    refine .skip<|.BF<|.AB<|.pf [0,1,5,6,26,27] [0,0] 1 O O<|.region ?_;cases h1;exact .be O<|.ag (A7,c7) hm1 O (zl [1,1,1] 0 O)
  refine .xq O ?_;cases h1;cases hd1 _ rfl
  exact .AB<|.LJ (A3,c3) trivial (zl [0] 2 O)
 rintro ⟨A4,c4⟩;cases h;exact .KT Tryz.results40 .nil O _ ⟨A4,c4,O,O⟩ (zl [1] 0 O)
theorem Bz:BV Tryz.prog 16:=en Tryz.func16 (by kernel_rfl)
def uT [AO] (BD:zA) (first:Int) (BL:Int) (overwrite:Bool):Option (zA × (Option xG) × Int):=
 bnd ((bif decide (BL<2) then (some true) else (bif decide (first<0) then (some true) else (bnd (vO BD) fun r1=>bif decide (BL>r1) then (some true) else (bnd (vO BD) fun r2=>some (decide (first>(wrap .i64 (r2 - BL))))))):Option Bool)) fun o1=>bif o1 then (some (BD,none,2)) else (bnd ((TF 24 ([]:(List Int)) BL BL:Option (List (List Int)))) fun l1=>bnd (mkS 24 (⟨0,0,0⟩:mS) BL BL) fun l2=>bnd (zI (τ:=(zA × (Option xG) × Int) ⊕ (xG × zA × List mS × List (List Int))) (fun (s1:xG × zA × Int × List mS × List (List Int))=>bif decide (s1.2.2.1<BL) then (bnd (zK s1.2.1) fun r3=>bnd (zK s1.2.1) fun r4=>bnd (xU s1.2.1 (wrap .i64 ((wrap .i64 (first+s1.2.2.1))*r3)) r4) fun r5=>bif (r5.2.2 != 0) then (some (.done (.inl (r5.1,none,r5.2.2)))) else (bnd (xR s1.1 r5.2.1 s1.2.2.1) fun r6=>bif r6.2 then (bnd (AU s1.2.2.2.2 s1.2.2.1) fun x1=>bnd (AU s1.2.2.2.1 s1.2.2.1) fun x2=>bnd (AU s1.2.2.2.2 s1.2.2.1) fun x3=>bnd (xJ s1.2.2.2.2 s1.2.2.1 r5.2.1) fun l3=>bnd (AU s1.2.2.2.1 s1.2.2.1) fun x4=>bnd (xJ s1.2.2.2.1 s1.2.2.1 r6.1) fun l4=>bif decide (r6.1.sequence>s1.1.newest) then (some (.next ((⟨s1.1.d,s1.1.first,s1.1.BL,s1.1.overwrite,r6.1.sequence,r6.1.tail,s1.1.used,s1.1.next,s1.1.records,s1.1.full,s1.1.number,s1.1.held,s1.1.ended⟩:xG),r5.1,wrap .i64 (s1.2.2.1+1),l4,l3))) else (some (.next (s1.1,r5.1,wrap .i64 (s1.2.2.1+1),l4,l3)))) else (some (.next (s1.1,r5.1,wrap .i64 (s1.2.2.1+1),s1.2.2.2.1,s1.2.2.2.2))))) else (some (.done (.inr (s1.1,s1.2.1,s1.2.2.2.1,s1.2.2.2.2))))) ((⟨true,first,BL,overwrite,0,0,0,1, [],false,0,false,false⟩:xG),BD,0,l2,l1)) fun o2=>wN o2 fun o3=>bnd (zI (τ:=xG) (fun (s2:xG × Int)=>bnd ((bif decide (s2.2≤s2.1.newest) then (some (decide (s2.2>0))) else (some false):Option Bool)) fun o5=>bif o5 then (bnd (TV (wrap .i64 (s2.2 - 1)) BL) fun q1=>bnd (AU o3.2.2.1 q1) fun x5=>bif (x5.sequence==s2.2) then (bnd (AU o3.2.2.2 q1) fun x6=>bnd (AU o3.2.2.2 q1) fun x7=>bnd (AU o3.2.2.1 q1) fun x8=>bnd (tY s2.1 x7 x8) fun r7=>some (.next (r7,wrap .i64 (s2.2+1)))) else (some (.next (s2.1,wrap .i64 (s2.2+1))))) else (some (.done s2.1))) (o3.1,o3.1.tail)) fun o4=>some (o3.2.1,(some o4),0))
theorem pT [AO] {BD first BL overwrite A1 c1 A2 c2 BN r} (h:uT BD first BL overwrite=some r):
    AX Tryz.prog 16 [.pointer (some ⟨BN,0,none⟩), .int .i64 first, .int .i64 BL, .bool overwrite] [.res (Box BN 112 (zJ BD A1 c1 A2 c2)), .res (zD AP 5 A1 c1 BD.bytes), .res (zD xA 3 A2 c2 BD.AY)] (ZY r.2.1 (fun v F=>∃ A3 c3 A4 c4,v= .tuple #[.pointer none, .int .i64 r.2.2]∧F= [.res (Box BN 112 (zJ r.1 A3 c3 A4 c4)), .res (zD AP 5 A3 c3 r.1.bytes), .res (zD xA 3 A4 c4 r.1.AY)]) (fun q_ v F=>∃ g1 A3 c3 A4 c4 A5 c5,v= .tuple #[.pointer (some ⟨g1,0,none⟩), .int .i64 r.2.2]∧F= [.res (Box BN 112 (zJ r.1 A3 c3 A4 c4)), .res (zD AP 5 A3 c3 r.1.bytes), .res (zD xA 3 A4 c4 r.1.AY), .res (Box g1 124 (wR q_ BN A5 c5)), .res (zD xV 155 A5 c5 q_.records)])):=by
 refine AX.intro Tryz.func16 O O O fun w R=>?_;refine .ab [0,1,2,3] O<|.seq<|.seq<|.bd h fun o1 hj1 h=>.cu 0 [0,1,2,3, .s 39 (.bool o1)] [] O O ?_ ?_
 ·refine .region<|.n 3 O<|.gs 22 hj1 O (fun hj1=>?_) (fun hj1=>?_)
  ·cases hj1;exact .be O<|.hU O zw
  refine .n 4 O<|.gs 26 hj1 O (fun hj1=>?_) (fun hj1=>?_)
  ·cases hj1;exact .be O<|.hU O zw
  refine .n 2 O<|.BR O O<|.bd hj1 fun r1 hr1 hj1=>.cq 3 [] [] 0 (pO hr1) Vb O<|.n 3 O<|.gs 32 hj1 O (fun hj1=>?_) (fun hj1=>?_)
  ·cases hj1;exact .be O<|.hU O zw
  refine .n 2 O<|.BR O O<|.bd hj1 fun r2 hr2 hj1=>.cq 3 [] [] 0 (pO hr2) Vb O ?_;cases hj1;exact .be O<|.hU O zw
 refine .cb h O (fun h=>?_) (fun h=>?_)
 ·refine .ab [8,9] O ?_;cases h;exact .rv O O (cL ⟨A1,c1,A2,c2,O,O⟩) zw
 refine .sk<|.pr [0,1,2,3] O<|.a 5 O<|.box O O fun g1=>.b [0,1,2,10] O<|.a 1 O<|.bd h fun l1 hl1 h=>.TF (ls:=fY) ([]) hl1 O O O O O O O O O O O fun g2=>.b [0,1,2,10,11] O<|.a 1 O<|.bd h fun l2 hl2 h=>.RU (E:=Bo) (⟨0,0,0⟩:mS) hl2 O O O O O O O O O O fun g3=>.b [0,1,2,10,11,12] O<|.seq<|.ae O<|.AQ (fun _ w=>w.EH xV 155)<|.bd h fun o2 hl1 h=>.EJ 7 (fun (o3:xG × zA × List mS × List (List Int)) (e3:Option Addr × Nat × Option Addr × Nat × Option Addr × Nat × Option Addr × Nat × Option Addr × Nat)=>[2,10, .s 11 (.slice e3.2.2.2.2.2.2.2.2.1 o3.2.2.2.length e3.2.2.2.2.2.2.2.2.2), .s 12 (.slice e3.2.2.2.2.2.2.1 o3.2.2.1.length e3.2.2.2.2.2.2.2.1)]) (fun o3 e3=>[.res (uD (yL fY) 29 e3.2.2.2.2.2.2.2.2.1 e3.2.2.2.2.2.2.2.2.2 o3.2.2.2), .res (zD Bo 128 e3.2.2.2.2.2.2.1 e3.2.2.2.2.2.2.2.1 o3.2.2.1), .res (zD xA 3 e3.2.2.2.2.1 e3.2.2.2.2.2.1 o3.2.1.AY), .res (zD AP 5 e3.2.2.1 e3.2.2.2.1 o3.2.1.bytes), .res (zD xV 155 e3.1 e3.2.1 o3.1.records), .res (Box g1 124 (wR o3.1 BN e3.1 e3.2.1)), .res (Box BN 112 (zJ o3.2.1 e3.2.2.1 e3.2.2.2.1 e3.2.2.2.2.1 e3.2.2.2.2.2.1))]) O O (fun o3=>o2= .inr o3) ?_ ?_
 ·refine .block<|.BH hl1 7 (fun (s1:xG × zA × Int × List mS × List (List Int)) (e2:Option Addr × Nat × Option Addr × Nat × Option Addr × Nat × Option Addr × Nat × Option Addr × Nat)=>[0,1,2,10, .s 11 (.slice e2.2.2.2.2.2.2.2.2.1 s1.2.2.2.2.length e2.2.2.2.2.2.2.2.2.2), .s 12 (.slice e2.2.2.2.2.2.2.1 s1.2.2.2.1.length e2.2.2.2.2.2.2.2.1),50, .s 51 (.int .i64 s1.2.2.1)]) (fun s1 e2=>[.res (uD (yL fY) 29 e2.2.2.2.2.2.2.2.2.1 e2.2.2.2.2.2.2.2.2.2 s1.2.2.2.2), .res (zD Bo 128 e2.2.2.2.2.2.2.1 e2.2.2.2.2.2.2.2.1 s1.2.2.2.1), .res (zD xA 3 e2.2.2.2.2.1 e2.2.2.2.2.2.1 s1.2.1.AY), .res (zD AP 5 e2.2.2.1 e2.2.2.2.1 s1.2.1.bytes), .res (zD xV 155 e2.1 e2.2.1 s1.1.records), .res (Box g1 124 (wR s1.1 BN e2.1 e2.2.1)), .res (Box BN 112 (zJ s1.2.1 e2.2.2.1 e2.2.2.2.1 e2.2.2.2.2.1 e2.2.2.2.2.2.1))]) O O (none,0,A1,c1,A2,c2,(some ⟨g3,0,none⟩),(Int.toNat BL),(some ⟨g2,0,none⟩),(Int.toNat BL)) (zb O) (zl [2,1,4,3] 0 O) ?_;rintro s1 ⟨A3,c3,A4,c4,A5,c5,A6,c6,A7,c7⟩ st1 hm1 hd1 h1;refine .ae O<|.seq<|.cb h1 O (fun h1=>?_) (fun h1=>?_)
  ·refine .sk<|.pr [0,1,2,10,11,12,50,51] O<|.seq<|.block<|.ab [0,1,2,10,11,12,13,50,51] O<|.a 5 O<|.bd h1 fun r3 hr3 h1=>.cq 7 [] [6,3,2] 0 (yR hr3) dK O<|.n 2 O<|.bd h1 fun r4 hr4 h1=>.cq 7 [] [] 0 (yR hr4) dK O<|.bd h1 fun r5 JF h1=>.call (qI JF) Jj O O O (fun _ w=>w) ?_;rintro _ _ ⟨MQ,c13,LD,c14,PK,c15,rfl,rfl⟩;refine .nm 8 O<|.b [0,1,2,10,11,12,13,14,15,50,51] O<|.seq<|.ab [0,1,2,10,11,12,13,14,15,50,51,68] O<|.cb h1 O (fun h1=>?_) (fun h1=>?_)
   ·refine .EQ [8,9] [0,0,0] 5 O O ?_;cases h1;cases hd1 _ rfl
    have h:some _=some _:=h;cases h;exact .rv O O (cL ⟨MQ,c13,LD,c14,O,O⟩) zw
   refine .sk<|.pr [0,1,2,10,11,12,13,14,50,51] O<|.a 3 O<|.AQ (fun _ w=>(w.sl [3] 0 O).CO)<|.bd h1 fun r6 KZ h1=>.cq 8 [2] [7,6] 0 (zAi (BN:=g1) KZ) zYx O<|.n 3 O<|.alloc O O fun g4=>.sb 0 0 O<|.b [0,1,2,10,11,12,13,14,16,17,50,51] O<|.ab [0,1,2,10,11,12,13,14,16,50,51,77] O<|.cb h1 O (fun h1=>?_) (fun h1=>?_)
   ·refine .seq<|.bd h1 fun x1 hx1 h1=>.LQ (zm 7 O) hx1 fun g5 hA=>?_;subst hA;refine .bd h1 fun x2 hx2 h1=>.JU (zm 8 O) hx2 fun g6 hA=>?_;subst hA;refine .BG (iN [0,4,8,12,16,20,25,31,33,39] .nil) _ mixed (by kernel_rfl) (zl [0,0,0,0,0,0,0] 2 O)<|.yn 5 O<|.yl 0 0 O<|.bd h1 fun x3 hx3 h1=>.DR (Rd.KH (n':=1) hx3 O O O O O O O) O<|.BZ<|.bd h1 fun l3 hl3 h1=>.yw (ls:=fY) 0 (fun ex=>((PK,c15),())) hx3 hl3 O O (FX 7 O) O O O O (fun _=>O) (fun _=>⟨(zm 4 O),trivial⟩) ?_;refine .ss 11 (zF hl3) ?_;refine .ss 78 (zF hl3)<|.xk (zl [1,1,1,1,1,1,1] 2 O)<|.bd h1 fun x4 hx4 h1=>.DR (Rd.FO (E:=Bo) hx4 O O O O O O O) O<|.BZ<|.bd h1 fun l4 hl4 h1=>.IY 0 hx4 hl4 O O (FX 8 O) O O O O O ?_;refine .ss 12 (zF hl4) ?_;refine .ss 80 (zF hl4)<|.xk (zl [] 2 O)<|.BX<|.AB<|.pf [0,1,2,10,11,12,16,50,51] [0,0,0,0,0] 1 O O<|.seq<|.regionF mixed (by kernel_rfl)<|.p O O<|.lb 0 2 O<|.n 3 O<|.lb 4 3 O<|.bq [0,1,2,10,11,12,16,50,51,92] O<|.cb h1 O (fun h1=>?_) (fun h1=>?_)
    ·refine .BG (iN [0,4,8,13,16,20,24,28,35,36,40,47] .nil) _ mixed (by kernel_rfl) (zl [0,0,0] 1 O)<|.yn 3 O<|.yx 0 2 O<|.yn 1 O<|.yl 1 2 O<|.yn 2 O<|.BZ<|.sb 4 3 O<|.xk (zl [] 1 O)<|.yn 2 O<|.BZ<|.sb 5 0 O<|.xk (zl [] 1 O)<|.BX<|.BF<|.AB<|.pf [0,1,2,10,11,12,50,51] [0,0,0] 1 O O<|.region ?_;cases h1;exact .be O<|.ag (A3,c3,MQ,c13,LD,c14,(some ⟨g6,0,none⟩),c6,(some ⟨g5,0,none⟩),c7) hm1 O (zl [2,1,4,3,1] 0 O)
    refine .skip<|.BF<|.AB<|.pf [0,1,2,10,11,12,50,51] [0,0] 1 O O<|.region ?_;cases h1;exact .be O<|.ag (A3,c3,MQ,c13,LD,c14,(some ⟨g6,0,none⟩),c6,(some ⟨g5,0,none⟩),c7) hm1 O (zl [1,0,4,3,1] 0 O)
   refine .skip<|.BF<|.AB<|.pf [0,1,2,10,11,12,50,51] [1,1] 2 O O<|.region ?_;cases h1;exact .be O<|.ag (A3,c3,MQ,c13,LD,c14,A6,c6,A7,c7) hm1 O (zl [5,5,4,3,1] 0 O)
  refine .xq O ?_;cases h1;cases hd1 _ rfl
  exact .AB<|.DN (s1.1,s1.2.1,s1.2.2.2.1,s1.2.2.2.2) (A3,c3,A4,c4,A5,c5,A6,c6,A7,c7) O (zb O) zw
 rintro o3 ⟨A8,c8,A9,c9,MR,c10,OQ,c11,WE,c12⟩ ho;subst ho;have h:=IV h;refine .seq<|.a 3 O<|.lb 5 5 O<|.b [2,10,11,12,18] O<|.bd h fun o4 hl2 h=>.DZ 6 (fun (e5:Option Addr × Nat)=>[10]) (fun e5=>[.res (zD xV 155 e5.1 e5.2 o4.records),2,3, .res (Box g1 124 (wR o4 BN e5.1 e5.2))]) O O ?_ ?_
 ·refine .block<|.BH hl2 6 (fun (s2:xG × Int) (e4:Option Addr × Nat)=>[2,10,11,12, .s 18 (.int .i64 s2.2)]) (fun s2 e4=>[.res (zD xV 155 e4.1 e4.2 s2.1.records),0,1,2,3, .res (Box g1 124 (wR s2.1 BN e4.1 e4.2))]) O O (A8,c8) (zb O) (zl [4] 0 O) ?_;rintro s2 ⟨SK,c16⟩ st2 hm2 hd2 h2;refine .seq<|.seq<|.bd h2 fun o5 hj2 h2=>.cu 0 [2,10,11,12,18, .s 117 (.bool o5)] [] O O ?_ ?_
  ·refine .region<|.n 4 O<|.lb 4 5 O<|.n 2 O<|.gs 114 hj2 O (fun hj2=>?_) (fun hj2=>?_)
   ·cases hj2;exact .be O<|.hU O zw
   cases hj2;exact .be O<|.hU O zw
  refine .cb h2 O (fun h2=>?_) (fun h2=>?_)
  ·refine .sk<|.pr [2,10,11,12,18] O<|.seq<|.block<|.a 3 O<|.bd h2 fun q1 hq1 h2=>.rem O O O hq1<|.b [2,10,11,12,18,19] O<|.a 2 O<|.bd h2 fun x5 hx5 h2=>.II hx5 2 O fun g9 hA=>?_;subst hA;refine .p O O<|.EZ 0 hx5 O O (zm 2 O) O O<|.b [2,10,11,12,18,19,130] O<|.cb h2 O (fun h2=>?_) (fun h2=>?_)
   ·refine .bd h2 fun x6 hx6 h2=>.LQ EI hx6 fun g10 hA=>?_;subst hA;refine .BG (iN [0,4,8,13,20,24,28,32,19,39] .nil) _ mixed (by kernel_rfl) (zl [1,1,1,1] 2 O)<|.yn 3 O<|.bd h2 fun x7 hx7 h2=>.DR (Rd.KH (n':=1) hx7 O O O O O O O) O<|.yn 2 O<|.bd h2 fun x8 JL h2=>.IG (fun _ h=>h) (Rd.FO (E:=Bo) JL O O O O O O O) O<|.IG (fun _ h=>h) (Rd.EZ 0 JL O EI O O) O<|.BZ<|.YE (ls:=fY) 0 (fun ex=>.slice ex.1.1 x7.length ex.1.2) hx7 O O EI O (fun _=>O) fun JD=>?_;obtain ⟨⟨VB,c18⟩,_⟩:=JD;refine .nm 8 O<|.xk (zl [2,2,2,2] 3 O)<|.BZ<|.bd h2 fun r7 PI h2=>.cr 8 [2] [6,1] 0 (zBq (BN:=g1) PI) zYH O fun SL c19=>.xk (zl [] 3 O)<|.BX<|.BF<|.AB<|.pf [2,10,11,12,18] [0,0] 1 O O<|.region ?_;cases h2;exact .be O<|.ag (SL,c19) hm2 O (zl [1,1,1,1,1] 0 O)
   refine .skip<|.BF<|.AB<|.pr [2,10,11,12,18] O<|.region ?_;cases h2;exact .be O<|.ag (SK,c16) hm2 O zw
  refine .xq O ?_;cases h2;cases hd2 _ rfl
  exact .AB<|.hE (SK,c16) O (zl [0] 2 O)
 rintro ⟨TJ,c17⟩;refine .ab [8,9] O ?_;cases h;exact .rv O O (Rj ⟨g1,A9,c9,MR,c10,TJ,c17,O,O⟩) (zl [4,2,1,1] 0 O)
theorem zWG:BV Tryz.prog 140:=en Tryz.func140 (by kernel_rfl)
def rZ (AL:xW) (cap0:Int):Option Bool:=
 some (AL.Number==cap0)
theorem eR {AL cap0 A1 c1 BN r} (h:rZ AL cap0=some r):
    AX Tryz.prog 140 [.agg (xB AL A1 c1).toArray, .pointer (some ⟨BN,0,none⟩)] [.ro (BP vD A1 c1 AL.Conversion.DW), .res (Box BN 5 [.int .u8 cap0])] (fun v F=>v= .bool r∧F= [.res (Box BN 5 [.int .u8 cap0])]):=by
 unfold rZ at h
 refine AX.intro Tryz.func140 O O O fun w R=>?_;refine .seq<|.region<|.box O O fun g1=>.b [1,2] O<|.a 1 O<|.lb 0 0 O<|.lb 0 2 O<|.bf [3] [] 2 O O ?_;cases h;exact .rv O O ⟨O,O⟩ zw
theorem zWy:BV Tryz.prog 139:=en Tryz.func139 (by kernel_rfl)
def uF [AO] (AL:(List xW)) (CB:Int):Option Int:=
 bnd (zI (τ:=Int ⊕ Unit) (fun (s1:Int)=>bif decide (s1<(AL.length:Int)) then (bnd (AU AL s1) fun x1=>bnd (rZ x1 CB) fun r1=>bif r1 then (some (.done (.inl s1))) else (none)) else (none)) 0) fun o1=>wN o1 fun o2=>some (-1)
theorem rY [AO] {AL CB A1 c1 BN r} (h:uF AL CB=some r):
    AX Tryz.prog 139 [.slice A1 AL.length c1, .func (.func 140) #[] #[.pointer (some ⟨BN,0,none⟩)]] [.ro (Sl (yL yI) A1 c1 AL), .res (Box BN 5 [.int .u8 CB])] (fun v F=>v= .int .i64 r∧F= [.res (Box BN 5 [.int .u8 CB])]):=by
 refine AX.intro Tryz.func139 O O O fun w R=>?_;refine .ab [0,1] O<|.seq<|.ab [0,1,7,8] O<|.bd h fun o1 hl1 h=>.EJ 1 (fun (o2:Unit) (e2:Unit)=>[]) (fun o2 e2=>[]) O O (fun o2=>o1= .inr o2) ?_ ?_
 ·refine .block<|.BH hl1 0 (fun (s1:Int) (e1:Unit)=>[0,1,7, .s 8 (.int .i64 s1)]) (fun s1 e1=>[]) O O () (zb O) (fun _ w=>w) ?_;rintro s1 e1 st1 hm1 hd1 h1;refine .ae O<|.seq<|.cb h1 O (fun h1=>?_) (fun h1=>?_)
  ·refine .sk<|.pr [0,1,7,8] O<|.seq<|.block<|.ab [0,1,5,7,8] O<|.a 3 O<|.bd h1 fun x1 hx1 h1=>.RZ hx1 0 O fun b1 ED JD=>?_;obtain ⟨⟨A2,c2⟩,_⟩:=JD;refine .nm 4 O<|.ld ED 0 0 O<|.bd h1 fun r1 hr1 h1=>.NC (args:= [.agg (xB x1 A2 c2).toArray]) (us:= [.pointer (some ⟨BN,0,none⟩)]) (eR hr1) zWG O O O (zd [2] [3] 0 O) ?_;rintro _ _ ⟨rfl,rfl⟩;refine .nm 4 O<|.bf [0,1,5,7,8,16] [0] 2 O O<|.cb h1 O (fun h1=>?_) (fun h1=>?_)
   ·refine .EQ [4] [0] 1 O O ?_;cases h1;cases hd1 _ rfl
    have h:some _=some _:=h;cases h;exact .rv O O ⟨O,O⟩ zw
   cases h1
  cases h1
 rintro o2 e2 ho;subst ho;have h:=IV h;refine .ae O ?_;cases h;exact .rv O O ⟨O,O⟩ zw
theorem zXn:BV Tryz.prog 105:=en Tryz.func105 (by kernel_rfl)
def kD [AO] (DJ:sI) (number:Int):Option Int:=
 bnd (uF DJ.AZ number) fun r1=>some r1
theorem aG [AO] {DJ number A1 c1 A2 c2 A3 c3 A4 c4 BN r} (h:kD DJ number=some r):
    AX Tryz.prog 105 [.pointer (some ⟨BN,0,none⟩), .int .u8 number] [.ro (Sl (yL yI) A1 c1 DJ.AZ), .ro (BP zX A2 c2 DJ.l), .res (Box BN 167 (uS DJ A1 c1 A2 c2 A3 c3 A4 c4)), .res (uD (yL yO) 176 A3 c3 DJ.filters), .res (zD jM 71 A4 c4 DJ.states)] (fun v F=>v= .int .i64 r∧F= [.res (Box BN 167 (uS DJ A1 c1 A2 c2 A3 c3 A4 c4)), .res (uD (yL yO) 176 A3 c3 DJ.filters), .res (zD jM 71 A4 c4 DJ.states)]):=by
 refine AX.intro Tryz.func105 O O O fun w R=>?_;refine .seq<|.region<|.box O O fun g1=>.b [0,3] O<|.a 3 O<|.lb 0 3 O<|.p O O<|.bd h fun r1 hr1 h=>.cq 6 [1] [] 0 (rY hr1) zWy O<|.bf [4] [] 1 O O ?_;cases h;exact .rv O O ⟨O,O⟩ (zl [] 2 O)
theorem zYB:BV Tryz.prog 67:=en Tryz.func67 (by kernel_rfl)
def lD [AO] (DJ:sI) (FI:(List lP)):Option Int:=
 bnd (zI (τ:=Int ⊕ Unit) (fun (s1:Int)=>bif decide (s1<(FI.length:Int)) then (bnd (AU FI s1) fun x1=>bif decide (s1>0) then (none) else (bif !x1.OK then (none) else (bnd (kD DJ x1.Number) fun r1=>bif decide (r1<0) then (none) else (bnd (AU DJ.AZ r1) fun x2=>bif !x2.FD then (bif (x1.GL != 0) then (none) else (bif x2.FD then (none) else (bif ((mC .u16 x1.GL x2.GL) != 0) then (none) else (some (.next (wrap .i64 (s1+1))))))) else (none))))) else (some (.done (.inr ())))) 0) fun o1=>wN o1 fun o2=>some 0
theorem cB [AO] {DJ FI A1 c1 A2 c2 A3 c3 A4 c4 A5 c5 BN r} (h:lD DJ FI=some r):
    AX Tryz.prog 67 [.pointer (some ⟨BN,0,none⟩), .slice A5 FI.length c5] [.ro (Sl (yL yI) A1 c1 DJ.AZ), .ro (BP zX A2 c2 DJ.l), .ro (BP Jg A5 c5 FI), .res (Box BN 167 (uS DJ A1 c1 A2 c2 A3 c3 A4 c4)), .res (uD (yL yO) 176 A3 c3 DJ.filters), .res (zD jM 71 A4 c4 DJ.states)] (fun v F=>v= .int .i64 r∧F= [.res (Box BN 167 (uS DJ A1 c1 A2 c2 A3 c3 A4 c4)), .res (uD (yL yO) 176 A3 c3 DJ.filters), .res (zD jM 71 A4 c4 DJ.states)]):=by
 refine AX.intro Tryz.func67 O O O fun w R=>?_;refine .ab [0,1] O<|.seq<|.ae O<|.bd h fun o1 hl1 h=>.EJ 3 (fun (o2:Unit) (e2:Unit)=>[]) (fun o2 e2=>[0,1]) O O (fun o2=>o1= .inr o2) ?_ ?_
 ·refine .block<|.BH hl1 0 (fun (s1:Int) (e1:Unit)=>[0,1,9,10, .s 11 (.int .i64 s1)]) (fun s1 e1=>[]) O O () (zb O) (fun _ w=>w) ?_;rintro s1 e1 st1 hm1 hd1 h1;refine .ae O<|.seq<|.cb h1 O (fun h1=>?_) (fun h1=>?_)
  ·refine .sk<|.pr [0,1,9,10,11] O<|.seq<|.block<|.a 1 O<|.bd h1 fun x1 hx1 h1=>.FB hx1 2 O fun b1 ED=>.ld ED 0 0 O<|.alloc O O fun g1=>.p O O<|.sb 0 0 O<|.bf [0,1,5,6,9,10,11] [0] 1 O O<|.seq<|.seq<|.regionF mixed (by kernel_rfl)<|.n 3 O<|.gs 18 h1 O (fun h1=>?_) (fun h1=>?_)
   ·cases h1
   refine .n 12 O<|.BR O O<|.lb 1 0 O<|.n 2 O<|.gs 33 h1 O (fun h1=>?_) (fun h1=>?_)
   ·cases h1
   refine .bq [0,1,6,9,10,11,43] O<|.FN O<|.sk<|.pr [0,1,6,9,10,11] O<|.a 2 O<|.lb 0 0 O<|.bd h1 fun r1 hr1 h1=>.cq 7 [4,5] [4,4,4] 0 (aG hr1) zXn O<|.b [0,1,6,7,9,10,11] O<|.seq<|.ab [0,1,6,7,9,10,11,49] O<|.cb h1 O (fun h1=>?_) (fun h1=>?_)
   ·cases h1
   refine .sk<|.pr [0,1,6,7,9,10,11] O<|.a 3 O<|.lb 0 0 O<|.p O O<|.bd h1 fun x2 hx2 h1=>.RZ hx2 4 O fun b2 JA JD=>?_;obtain ⟨⟨A6,c6⟩,_⟩:=JD;refine .nm 9 O<|.ld JA 0 0 O<|.alloc O O fun g2=>.sb 0 0 O<|.bf [0,1,6,8,9,10,11] [0] 1 O O<|.block<|.a 1 O<|.lb 6 0 O<|.n 2 O<|.gs 61 h1 O (fun h1=>?_) (fun h1=>?_)
   ·refine .n 1 O<|.BR O O<|.lb 3 5 O<|.n 3 O<|.gs 66 h1 O (fun h1=>?_) (fun h1=>?_)
    ·cases h1
    refine .n 1 O<|.BR O O<|.lb 6 0 O<|.n 1 O<|.gs 69 h1 O (fun h1=>?_) (fun h1=>?_)
    ·cases h1
    refine .b [0,1,6,8,9,10,11,57] O<|.FN O<|.a 1 O<|.lb 3 5 O<|.p O O<|.lb 23 0 O<|.bf [0,1,9,10,11,75] [2,2,2] 3 O O<|.cb h1 O (fun h1=>?_) (fun h1=>?_)
    ·cases h1
    refine .skip<|.BF<|.BF<|.AB<|.pr [0,1,9,10,11] O<|.region ?_;cases h1;exact .be O<|.ag () hm1 O (zl [3,3,3] 0 O)
   cases h1
  refine .xq O ?_;cases h1;cases hd1 _ rfl
  exact .AB<|.DN () () O trivial (zl [0,0] 1 O)
 rintro o2 e2 ho;subst ho;have h:=IV h;refine .ae O ?_;cases h;exact .rv O O ⟨O,O⟩ (zl [] 2 O)
theorem zXr:BV Tryz.prog 165:=en Tryz.func165 (by kernel_rfl)
def wQ [AO] (AL:(List vK)) (CB:wG):Option Int:=
 bnd (zI (τ:=Int ⊕ Unit) (fun (s1:Int)=>bif decide (s1<(AL.length:Int)) then (none) else (some (.done (.inr ())))) 0) fun o1=>wN o1 fun o2=>some (-1)
theorem tF [AO] {AL CB A1 c1 BN r} (h:wQ AL CB=some r):
    AX Tryz.prog 165 [.slice A1 AL.length c1, .func (.func 166) #[] #[.pointer (some ⟨BN,0,none⟩)]] [.ro (BP zX A1 c1 AL), .res (Box BN 88 [.int .u8 CB.ID, .int .u8 CB.Instance])] (fun v F=>v= .int .i64 r∧F= [.res (Box BN 88 [.int .u8 CB.ID, .int .u8 CB.Instance])]):=by
 refine AX.intro Tryz.func165 O O O fun w R=>?_;refine .ab [0,1] O<|.seq<|.ab [0,1,7,8] O<|.bd h fun o1 hl1 h=>.EJ 1 (fun (o2:Unit) (e2:Unit)=>[]) (fun o2 e2=>[]) O O (fun o2=>o1= .inr o2) ?_ ?_
 ·refine .block<|.BH hl1 0 (fun (s1:Int) (e1:Unit)=>[0,1,7, .s 8 (.int .i64 s1)]) (fun s1 e1=>[]) O O () (zb O) (fun _ w=>w) ?_;rintro s1 e1 st1 hm1 hd1 h1;refine .ae O<|.seq<|.cb h1 O (fun h1=>?_) (fun h1=>?_)
  ·cases h1
  refine .xq O ?_;cases h1;cases hd1 _ rfl
  exact .AB<|.DN () () O trivial (zl [] 1 O)
 rintro o2 e2 ho;subst ho;have h:=IV h;refine .ae O ?_;cases h;exact .rv O O ⟨O,O⟩ zw
theorem zXd:BV Tryz.prog 138:=en Tryz.func138 (by kernel_rfl)
def zAg [AO] (BM:(List vK)) (CW:wG):Option (wG × Bool):=
 bnd (wQ BM CW) fun r1=>bif decide (r1<0) then (some ((⟨0,0⟩:wG),false)) else (none)
theorem zFe [AO] {BM CW A1 c1 r} (h:zAg BM CW=some r):
    AX Tryz.prog 138 [.slice A1 BM.length c1, .agg #[.int .u8 CW.ID, .int .u8 CW.Instance]] [.ro (BP zX A1 c1 BM)] (Val (.tuple #[.agg #[.int .u8 r.1.ID, .int .u8 r.1.Instance], .bool r.2])):=by
 refine AX.intro Tryz.func138 O O O fun w R=>?_;refine .seq<|.region<|.box O O fun g1=>.alloc O O fun g2=>.b [0,3,4] O<|.a 2 O<|.bd h fun r1 hr1 h=>.cq 3 [2] [1] 0 (tF hr1) zXr O<|.bf [0,4,6] [] 1 O O<|.seq<|.ab [0,4,6,11] O<|.cb h O (fun h=>?_) (fun h=>?_)
 ·refine .a 1 O<|.sb 0 0 O<|.bf [4,5] [0] 1 O O ?_;cases h;exact .rt O Tryz.results138 (.cell O (.head _) O (.tmp O .nil)) O ⟨O,O⟩ (zl [] 1 O)
 cases h
theorem zSn:BV Tryz.prog 104:=en Tryz.func104 (by kernel_rfl)
def aW [AO] (BM:(List vK)) (CW:wG):Option (List wG):=
 bnd (zI (τ:=(List wG) ⊕ Unit) (fun (s1:Unit)=>bnd (zAg BM CW) fun r1=>bif !r1.2 then (some (.done (.inl ([])))) else (none)) ()) fun o1=>wN o1 fun o2=>none
theorem zAe [AO] {BM CW A1 c1 r} (h:aW BM CW=some r):
    AX Tryz.prog 104 [.slice A1 BM.length c1, .agg #[.int .u8 CW.ID, .int .u8 CW.Instance]] [.ro (BP zX A1 c1 BM)] (fun v F=>∃ A2 c2,v= .slice A2 r.length c2∧F= [.res (zD sS 88 A2 c2 r)]):=by
 refine AX.intro Tryz.func104 O O O fun w R=>?_;refine .seq<|.region<|.box O O fun g1=>.b [0,3] O<|.ae O<|.bd h fun o1 hl1 h=>.DV<|.EJ 2 (fun (o2:Unit) (e2:Unit)=>[]) (fun o2 e2=>[]) O O (fun o2=>o1= .inr o2) ?_ ?_
 ·refine .block<|.BH hl1 0 (fun (s1:Unit) (e1:Unit)=>[0,3,5]) (fun s1 e1=>[]) O O () (zb O) (fun _ w=>w) ?_;rintro s1 e1 st1 hm1 hd1 h1;refine .block<|.a 1 O<|.lb 0 0 O<|.bd h1 fun r1 hr1 h1=>.cv [1] (zFe hr1) zXd O<|.n 3 O<|.alloc O O fun g2=>.sb 0 0 O<|.b [0,3,5,6,7] O<|.seq<|.a 3 O<|.gs 16 h1 O (fun h1=>?_) (fun h1=>?_)
  ·refine .b [0,3,5,6,20] O<|.EF O<|.EQ [4] [] 3 O O<|.AQ (fun _ w=>w.EH sS 88) ?_;cases h1;cases hd1 _ rfl
   have h:some _=some _:=h;cases h;exact .rv O O ⟨none,0,O,O⟩ zw
  cases h1
 rintro o2 e2 ho;subst ho;have h:=IV h;have h:none=some _:=h;cases h
theorem zWv:BV Tryz.prog 137:=en Tryz.func137 (by kernel_rfl)
def tK [AO] (AL:(List wG)) (MS:wG):Option Int:=
 bnd (zI (τ:=Int ⊕ Unit) (fun (s1:Int)=>bif decide (s1<(AL.length:Int)) then (none) else (some (.done (.inr ())))) 0) fun o1=>wN o1 fun o2=>some (-1)
theorem nI [AO] {AL MS A1 c1 r} (h:tK AL MS=some r):
    AX Tryz.prog 137 [.slice A1 AL.length c1, .agg #[.int .u8 MS.ID, .int .u8 MS.Instance]] [.ro (BP sS A1 c1 AL)] (Val (.int .i64 r)):=by
 refine AX.intro Tryz.func137 O O O fun w R=>?_;refine .seq<|.region<|.box O O fun g1=>.b [0,3] O<|.seq<|.ab [0,3,7,8] O<|.bd h fun o1 hl1 h=>.EJ 2 (fun (o2:Unit) (e2:Unit)=>[]) (fun o2 e2=>[]) O O (fun o2=>o1= .inr o2) ?_ ?_
 ·refine .block<|.BH hl1 0 (fun (s1:Int) (e1:Unit)=>[0,3,7, .s 8 (.int .i64 s1)]) (fun s1 e1=>[]) O O () (zb O) (fun _ w=>w) ?_;rintro s1 e1 st1 hm1 hd1 h1;refine .ae O<|.seq<|.cb h1 O (fun h1=>?_) (fun h1=>?_)
  ·cases h1
  refine .xq O ?_;cases h1;cases hd1 _ rfl
  exact .AB<|.DN () () O trivial (zl [] 2 O)
 rintro o2 e2 ho;subst ho;have h:=IV h;refine .ae O ?_;cases h;exact .rv O O ⟨O,O⟩ zw
theorem zWu:BV Tryz.prog 103:=en Tryz.func103 (by kernel_rfl)
def uW [AO] (AL:(List wG)) (MS:wG):Option Bool:=
 bnd (tK AL MS) fun r1=>some (decide (r1≥0))
theorem pX [AO] {AL MS A1 c1 r} (h:uW AL MS=some r):
    AX Tryz.prog 103 [.slice A1 AL.length c1, .agg #[.int .u8 MS.ID, .int .u8 MS.Instance]] [.ro (BP sS A1 c1 AL)] (Val (.bool r)):=by
 refine AX.intro Tryz.func103 O O O fun w R=>?_;refine .seq<|.region<|.box O O fun g1=>.b [0,3] O<|.a 1 O<|.lb 0 0 O<|.bd h fun r1 hr1 h=>.cv [1] (nI hr1) zWv O<|.bf [4] [] 2 O O ?_;cases h;exact .rv O O ⟨O,O⟩ zw
theorem zWT:BV Tryz.prog 142:=en Tryz.func142 (by kernel_rfl)
def gM [AO] (CU:wG) (cap0:(List wG)):Option Bool:=
 bnd (uW cap0 CU) fun r1=>some r1
theorem zCq [AO] {CU cap0 A1 c1 BN r} (h:gM CU cap0=some r):
    AX Tryz.prog 142 [.agg #[.int .u8 CU.ID, .int .u8 CU.Instance], .pointer (some ⟨BN,0,none⟩)] [.ro (BP sS A1 c1 cap0), .res (Box BN 171 [.slice A1 cap0.length c1])] (fun v F=>v= .bool r∧F= [.res (Box BN 171 [.slice A1 cap0.length c1])]):=by
 refine AX.intro Tryz.func142 O O O fun w R=>?_;refine .seq<|.region<|.box O O fun g1=>.b [1,2] O<|.seq<|.region<|.lb 0 2 O<|.lb 0 0 O<|.bd h fun r1 hr1 h=>.cv [1] (pX hr1) zWu O<|.bf [3] [] 1 O O ?_;cases h;exact .rv O O ⟨O,O⟩ (zl [] 1 O)
theorem zXy:BV Tryz.prog 167:=en Tryz.func167 (by kernel_rfl)
def uH [AO] (AL:(List wG)) (CB:(List wG)):Option Int:=
 bnd (zI (τ:=Int ⊕ Unit) (fun (s1:Int)=>bif decide (s1<(AL.length:Int)) then (bnd (AU AL s1) fun x1=>bnd (gM x1 CB) fun r1=>bif r1 then (none) else (some (.next (wrap .i64 (s1+1))))) else (some (.done (.inr ())))) 0) fun o1=>wN o1 fun o2=>some (-1)
theorem qB [AO] {AL CB A1 c1 A2 c2 BN r} (h:uH AL CB=some r):
    AX Tryz.prog 167 [.slice A1 AL.length c1, .func (.func 142) #[] #[.pointer (some ⟨BN,0,none⟩)]] [.ro (BP sS A1 c1 AL), .ro (BP sS A2 c2 CB), .res (Box BN 171 [.slice A2 CB.length c2])] (fun v F=>v= .int .i64 r∧F= [.res (Box BN 171 [.slice A2 CB.length c2])]):=by
 refine AX.intro Tryz.func167 O O O fun w R=>?_;refine .ab [0,1] O<|.seq<|.ab [0,1,7,8] O<|.bd h fun o1 hl1 h=>.EJ 1 (fun (o2:Unit) (e2:Unit)=>[]) (fun o2 e2=>[]) O O (fun o2=>o1= .inr o2) ?_ ?_
 ·refine .block<|.BH hl1 0 (fun (s1:Int) (e1:Unit)=>[0,1,7, .s 8 (.int .i64 s1)]) (fun s1 e1=>[]) O O () (zb O) (fun _ w=>w) ?_;rintro s1 e1 st1 hm1 hd1 h1;refine .ae O<|.seq<|.cb h1 O (fun h1=>?_) (fun h1=>?_)
  ·refine .sk<|.pr [0,1,7,8] O<|.seq<|.block<|.ab [0,1,5,7,8] O<|.a 3 O<|.bd h1 fun x1 hx1 h1=>.FB hx1 0 O fun b1 ED=>.ld ED 0 0 O<|.bd h1 fun r1 hr1 h1=>.NC (args:= [.agg #[.int .u8 x1.ID, .int .u8 x1.Instance]]) (us:= [.pointer (some ⟨BN,0,none⟩)]) (zCq hr1) zWT O O O (zd [3] [3] 0 O) ?_;rintro _ _ ⟨rfl,rfl⟩;refine .nm 4 O<|.bf [0,1,5,7,8,16] [0] 1 O O<|.cb h1 O (fun h1=>?_) (fun h1=>?_)
   ·cases h1
   refine .skip<|.BF<|.AB<|.pr [0,1,7,8] O<|.region ?_;cases h1;exact .be O<|.ag () hm1 O (zl [1,1] 0 O)
  refine .xq O ?_;cases h1;cases hd1 _ rfl
  exact .AB<|.DN () () O trivial (zl [] 1 O)
 rintro o2 e2 ho;subst ho;have h:=IV h;refine .ae O ?_;cases h;exact .rv O O ⟨O,O⟩ (zl [] 1 O)
theorem zWN:BV Tryz.prog 141:=en Tryz.func141 (by kernel_rfl)
def vN [AO] (AL:(List wG)) (CB:(List wG)):Option Bool:=
 bnd (uH AL CB) fun r1=>some (decide (r1≥0))
theorem rE [AO] {AL CB A1 c1 A2 c2 BN r} (h:vN AL CB=some r):
    AX Tryz.prog 141 [.slice A1 AL.length c1, .func (.func 142) #[] #[.pointer (some ⟨BN,0,none⟩)]] [.ro (BP sS A1 c1 AL), .ro (BP sS A2 c2 CB), .res (Box BN 171 [.slice A2 CB.length c2])] (fun v F=>v= .bool r∧F= [.res (Box BN 171 [.slice A2 CB.length c2])]):=by
 refine AX.intro Tryz.func141 O O O fun w R=>?_;refine .ab [0,1] O<|.a 2 O<|.bd h fun r1 hr1 h=>.cq 3 [1,2] [2] 0 (qB hr1) zXy O<|.bf [4] [0] 1 O O ?_;cases h;exact .rv O O ⟨O,O⟩ (zl [0] 1 O)
theorem zXt:BV Tryz.prog 106:=en Tryz.func106 (by kernel_rfl)
def bF [AO] (BM:(List vK)) (absent:(List wG)) (KD:wG):Option Bool:=
 bnd (aW BM KD) fun r1=>bnd (app 2 r1 [KD]) fun l1=>bnd (vN l1 absent) fun r2=>some (!r2)
theorem zDL [AO] {BM absent KD A1 c1 A2 c2 r} (h:bF BM absent KD=some r):
    AX Tryz.prog 106 [.slice A1 BM.length c1, .slice A2 absent.length c2, .agg #[.int .u8 KD.ID, .int .u8 KD.Instance]] [.ro (BP zX A1 c1 BM), .ro (BP sS A2 c2 absent)] (Val (.bool r)):=by
 refine AX.intro Tryz.func106 O O O fun w R=>?_;refine .seq<|.region<|.box O O fun g1=>.box O O fun g2=>.b [0,4,5] O<|.seq<|.bd h fun r1 hr1 h=>.bd h fun l1 hl1 h=>.bd h fun r2 hr2 h=>.BG (iN [0,4,12,24] (.alt (iN [11] (iN [19] (iN [23] (iN [31,32,36] .nil)))) (iN [19] (iN [11] (iN [23] (iN [31,32,36] .nil)))))) _ mixed (by kernel_rfl) zw<|.EC (Y:=?JE) 0 (fun (e:Option Addr × Nat × Nat)=>[.s 9 (.slice e.1 r1.length e.2.1), .s 11 (.slice (some ⟨e.2.2,0,none⟩) 1 1), .s 13 (.func (.func 142) #[] #[.pointer (some ⟨g1,0,none⟩)])]) (fun e=>[.res (Box e.2.2 88 [.int .u8 KD.ID, .int .u8 KD.Instance]), .res (zD sS 88 e.1 e.2.1 r1)]) O O (fun DT=>?EW) ?EX
 case EW=>
  refine .yn 1 O<|.yl 0 0 O<|.yl 0 0 O<|.yn 1 O<|.GZ ?_ ?_
  ·refine .BZ<|.cr 5 [2] [] 0 (zAe hr1) zSn O fun A3 c3=>.xk (zl [] 1 O)<|.BZ<|.bS O fun g3=>.xk (zl [] 2 O) ?_;refine DT _ _ (A3,c3,g3) ?_ ?_
   ·exact ⟨O,O,O,trivial⟩
   exact fun _ w=>w
  refine .BZ<|.bS O fun g3=>.xk (zl [] 1 O)<|.BZ<|.cr 6 [3] [] 0 (zAe hr1) zSn O fun A3 c3=>.xk (zl [] 2 O) ?_;refine DT _ _ (A3,c3,g3) ?_ ?_
  ·exact ⟨O,O,O,trivial⟩
  exact fun _ w=>(w.sl [1] 0 O)
 case EX=>
  rintro ⟨A3,c3,g3⟩;refine .nm 6 O<|.BZ<|.app (E:=sS) hl1 O O O (.s .z) O O O O O O O O (oP (.head _) O O) O O fun A4 c4=>.xk (zl [] 2 O)<|.BZ<|.AQ (fun _ w=>w.CO)<|.cq 6 [1,5] [3] 0 (rE hr2) zWN O<|.xk (zl [3,0] 2 O)<|.yn 2 O<|.BX<|.AB<|.pf [6] [] 6 O O ?_;cases h;exact .rv O O ⟨O,O⟩ zw
theorem zYj:BV Tryz.prog 68:=en Tryz.func68 (by kernel_rfl)
def cP [AO] (BM:(List vK)) (absent:(List wG)) (KD:wG):Option (Bool × Int):=
 bnd (gS BM) fun r1=>bif (r1 != 0) then (none) else (bnd (bF BM absent KD) fun r2=>some (r2,0))
theorem zEa [AO] {BM absent KD A1 c1 A2 c2 r} (h:cP BM absent KD=some r):
    AX Tryz.prog 68 [.slice A1 BM.length c1, .slice A2 absent.length c2, .agg #[.int .u8 KD.ID, .int .u8 KD.Instance]] [.ro (BP zX A1 c1 BM), .ro (BP sS A2 c2 absent)] (Val (.tuple #[.bool r.1, .int .i64 r.2])):=by
 refine AX.intro Tryz.func68 O O O fun w R=>?_;refine .seq<|.region<|.box O O fun g1=>.b [0,1,5] O<|.seq<|.a 1 O<|.bd h fun r1 hr1 h=>.cv [1] (zAT hr1) zVc O<|.b [0,1,5,8] O<|.ab [0,1,5,8,12] O<|.cb h O (fun h=>?_) (fun h=>?_)
 ·cases h
 refine .sk<|.pr [0,1,5] O<|.a 2 O<|.lb 0 0 O<|.bd h fun r2 hr2 h=>.cv [1,2] (zDL hr2) zXt O<|.bf [6,7] [] 3 O O ?_;cases h;exact .rv O O ⟨O,O⟩ zw
theorem zXW:BV Tryz.prog 70:=en Tryz.func70 (by kernel_rfl)
def rT (XJ:lP) (cap0:xW):Option Bool:=
 some (XJ.Number==cap0.Number)
theorem eY {XJ cap0 A1 c1 BN r} (h:rT XJ cap0=some r):
    AX Tryz.prog 70 [.agg (eJ XJ).toArray, .pointer (some ⟨BN,0,none⟩)] [.ro (BP vD A1 c1 cap0.Conversion.DW), .res (Box BN 90 (xB cap0 A1 c1))] (fun v F=>v= .bool r∧F= [.res (Box BN 90 (xB cap0 A1 c1))]):=by
 unfold rT at h
 refine AX.intro Tryz.func70 O O O fun w R=>?_;refine .seq<|.region<|.box O O fun g1=>.b [1,2] O<|.a 1 O<|.lb 0 0 O<|.p O O<|.lb 0 2 O<|.bf [3] [] 1 O O ?_;cases h;exact .rv O O ⟨O,O⟩ (zl [] 1 O)
theorem zXY:BV Tryz.prog 69:=en Tryz.func69 (by kernel_rfl)
def uI [AO] (AL:(List lP)) (CB:xW):Option Int:=
 bnd (zI (τ:=Int ⊕ Unit) (fun (s1:Int)=>bif decide (s1<(AL.length:Int)) then (bnd (AU AL s1) fun x1=>bnd (rT x1 CB) fun r1=>bif r1 then (some (.done (.inl s1))) else (none)) else (none)) 0) fun o1=>wN o1 fun o2=>some (-1)
theorem qE [AO] {AL CB A1 c1 A2 c2 BN r} (h:uI AL CB=some r):
    AX Tryz.prog 69 [.slice A1 AL.length c1, .func (.func 70) #[] #[.pointer (some ⟨BN,0,none⟩)]] [.ro (BP Jg A1 c1 AL), .ro (BP vD A2 c2 CB.Conversion.DW), .res (Box BN 90 (xB CB A2 c2))] (fun v F=>v= .int .i64 r∧F= [.res (Box BN 90 (xB CB A2 c2))]):=by
 refine AX.intro Tryz.func69 O O O fun w R=>?_;refine .ab [0,1] O<|.seq<|.ab [0,1,7,8] O<|.bd h fun o1 hl1 h=>.EJ 1 (fun (o2:Unit) (e2:Unit)=>[]) (fun o2 e2=>[]) O O (fun o2=>o1= .inr o2) ?_ ?_
 ·refine .block<|.BH hl1 0 (fun (s1:Int) (e1:Unit)=>[0,1,7, .s 8 (.int .i64 s1)]) (fun s1 e1=>[]) O O () (zb O) (fun _ w=>w) ?_;rintro s1 e1 st1 hm1 hd1 h1;refine .ae O<|.seq<|.cb h1 O (fun h1=>?_) (fun h1=>?_)
  ·refine .sk<|.pr [0,1,7,8] O<|.seq<|.block<|.ab [0,1,5,7,8] O<|.a 3 O<|.bd h1 fun x1 hx1 h1=>.FB hx1 0 O fun b1 ED=>.ld ED 0 0 O<|.bd h1 fun r1 hr1 h1=>.NC (args:= [.agg (eJ x1).toArray]) (us:= [.pointer (some ⟨BN,0,none⟩)]) (eY hr1) zXW O O O (zd [3] [3] 0 O) ?_;rintro _ _ ⟨rfl,rfl⟩;refine .nm 4 O<|.bf [0,1,5,7,8,16] [0] 1 O O<|.cb h1 O (fun h1=>?_) (fun h1=>?_)
   ·refine .EQ [4] [0] 1 O O ?_;cases h1;cases hd1 _ rfl
    have h:some _=some _:=h;cases h;exact .rv O O ⟨O,O⟩ (zl [0] 1 O)
   cases h1
  cases h1
 rintro o2 e2 ho;subst ho;have h:=IV h;refine .ae O ?_;cases h;exact .rv O O ⟨O,O⟩ (zl [] 1 O)
theorem zTh:BV Tryz.prog 143:=en Tryz.func143 (by kernel_rfl)
def kX [AO] (AL:xW) (GR:tW):Option Bool:=
 bnd (lU AL) fun r1=>bif !r1 then (none) else (bif decide ((GR.Window.length:Int)>AL.GY) then (none) else (bif decide (GR.Missing<0) then (none) else (bif decide (GR.Missing>3) then (none) else (bif decide (GR.Missing<3) then (some true) else (none)))))
theorem dP [AO] {AL GR A1 c1 A2 c2 r} (h:kX AL GR=some r):
    AX Tryz.prog 143 [.agg (xB AL A1 c1).toArray, .agg #[.slice A2 GR.Window.length c2, .int .i64 GR.Missing]] [.ro (BP vD A1 c1 AL.Conversion.DW), .ro (BP AP A2 c2 GR.Window)] (Val (.bool r)):=by
 refine AX.intro Tryz.func143 O O O fun w R=>?_;refine .seq<|.region<|.box O O fun g1=>.box O O fun g2=>.b [2,3] O<|.seq<|.seq<|.region<|.lb 0 1 O<|.bd h fun r1 hr1 h=>.cv [2] (gP hr1) Uu O<|.n 2 O<|.gs 8 h O (fun h=>?_) (fun h=>?_)
 ·cases h
 refine .n 1 O<|.BR O O<|.lb 0 0 O<|.n 2 O<|.BR O O<|.lb 27 1 O<|.n 3 O<|.gs 16 h O (fun h=>?_) (fun h=>?_)
 ·cases h
 refine .n 1 O<|.BR O O<|.lb 1 0 O<|.n 3 O<|.gs 21 h O (fun h=>?_) (fun h=>?_)
 ·cases h
 refine .n 1 O<|.BR O O<|.lb 1 0 O<|.bf [3,25] [0] 2 O O<|.cb h O (fun h=>?_) (fun h=>?_)
 ·cases h
 refine .sk<|.pr [3] O<|.a 1 O<|.lb 1 0 O<|.n 2 O<|.gs 29 h O (fun h=>?_) (fun h=>?_)
 ·refine .bf [4] [] 2 O O ?_;cases h;exact .rv O O ⟨O,O⟩ zw
 cases h
theorem zTr:BV Tryz.prog 108:=en Tryz.func108 (by kernel_rfl)
def aV [AO] (AL:xW) (GR:tW) (raw:Int) (RI:Bool):Option (tW × Int):=
 bnd (kX AL GR) fun r1=>bif !r1 then (none) else (bnd (zR GR.Window) fun r2=>bif RI then (bnd (app 1 r2 [raw]) fun l1=>bif decide ((l1.length:Int)>AL.GY) then (none) else (some ((⟨l1,0⟩:tW),0))) else (none))
theorem zAd [AO] {AL GR raw RI A1 c1 A2 c2 r} (h:aV AL GR raw RI=some r):
    AX Tryz.prog 108 [.agg (xB AL A1 c1).toArray, .agg #[.slice A2 GR.Window.length c2, .int .i64 GR.Missing], .int .u8 raw, .bool RI] [.ro (BP vD A1 c1 AL.Conversion.DW), .ro (BP AP A2 c2 GR.Window)] (fun v F=>∃ A3 c3,v= .tuple #[.agg #[.slice A3 r.1.Window.length c3, .int .i64 r.1.Missing], .int .i64 r.2]∧F= [.ro (BP AP A3 c3 r.1.Window)]):=by
 refine AX.intro Tryz.func108 O O O fun w R=>?_;refine .seq<|.region<|.box O O fun g1=>.box O O fun g2=>.alloc O O fun g3=>.b [2,3,4,5,8] O<|.seq<|.seq<|.region<|.lb 0 2 O<|.lb 0 1 O<|.bd h fun r1 hr1 h=>.cv [3,4] (dP hr1) zTh O<|.b [2,3,4,5,8,14] O<|.cb h O (fun h=>?_) (fun h=>?_)
 ·cases h
 refine .sk<|.pr [2,3,4,5,8] O<|.a 1 O<|.lb 0 1 O<|.bd h fun r2 hr2 h=>.cr 6 [4] [] 0 (xI hr2) YP O fun A3 c3=>.p O O<|.alloc O O fun g4=>.sb 0 0 O<|.b [2,3,4,5,8,10] O<|.seq<|.ab [2,4,5,8,10,20] O<|.cb h O (fun h=>?_) (fun h=>?_)
 ·refine .a 1 O<|.lb 0 0 O<|.p O O<|.bS O fun g5=>.bd h fun l1 hl1 h=>.app (E:=AP) hl1 O O O (FX 2 O) O O O O O O O O (oP (.head _) O O) O O fun A4 c4=>.p O O<|.sb 0 2 O<|.bf [4,8,10] [0,0,1,2,2] 3 O O<|.seq<|.a 1 O<|.lb 0 0 O<|.n 2 O<|.lb 27 3 O<|.bf [8,10,32] [0,0,0] 2 O O<|.cb h O (fun h=>?_) (fun h=>?_)
  ·cases h
  refine .sk<|.pr [8,10] O<|.seq<|.region<|.lb 0 0 O<|.sb 0 2 O<|.bf [8,9] [0] 1 O O<|.AQ (fun _ w=>(w.sl [1] 0 O).CO) ?_;cases h;exact .rt O Tryz.results108 (.cell O EI O (.tmp O .nil)) O ⟨A4,c4,O,O⟩ (zk 1 2 [0] [] 0 O)
 cases h
theorem zXf:BV Tryz.prog 109:=en Tryz.func109 (by kernel_rfl)
def fI [AO] (AL:xW) (GR:tW):Option (Int × Bool):=
 bnd (kX AL GR) fun r1=>bif !r1 then (none) else (bif ((GR.Window.length:Int) != AL.GY) then (none) else (bnd (zMo GR.Window) fun r2=>bnd (bU GR.Window) fun r3=>bnd (AU r3 (wrap .i64 ((r3.length:Int).tdiv 2))) fun x1=>some (x1,true)))
theorem zBV [AO] {AL GR A1 c1 A2 c2 r} (h:fI AL GR=some r):
    AX Tryz.prog 109 [.agg (xB AL A1 c1).toArray, .agg #[.slice A2 GR.Window.length c2, .int .i64 GR.Missing]] [.ro (BP vD A1 c1 AL.Conversion.DW), .ro (BP AP A2 c2 GR.Window)] (Val (.tuple #[.int .u8 r.1, .bool r.2])):=by
 refine AX.intro Tryz.func109 O O O fun w R=>?_;refine .seq<|.region<|.box O O fun g1=>.box O O fun g2=>.b [2,3] O<|.seq<|.seq<|.region<|.lb 0 1 O<|.lb 0 0 O<|.bd h fun r1 hr1 h=>.cv [2,3] (dP hr1) zTh O<|.n 2 O<|.gs 11 h O (fun h=>?_) (fun h=>?_)
 ·cases h
 refine .n 1 O<|.BR O O<|.lb 0 0 O<|.n 2 O<|.BR O O<|.lb 27 1 O<|.b [2,3,18] O<|.cb h O (fun h=>?_) (fun h=>?_)
 ·cases h
 refine .sk<|.pr [2,3] O<|.a 1 O<|.lb 0 0 O<|.bd h fun r2 hr2 h=>.call (zRC hr2) zXq O O O (zd [3] [] 0 O) ?_;rintro _ _ ⟨g3,rfl,rfl⟩;refine .nm 5 O<|.p O O<|.bd h fun r3 hr3 h=>.cr 6 [4] [] 0 (zJD hr3) zWJ O fun A3 c3=>.bf [6] [1] 5 O O<|.a 4 O<|.bd h fun x1 hx1 h=>.II hx1 0 O fun g4 hA=>?_;subst hA;refine .EZ 0 hx1 O O (.head _) O O<|.bf [4,5] [] 1 O O ?_;cases h;exact .rv O O ⟨O,O⟩ zw
theorem zWZ:BV Tryz.prog 149:=en Tryz.func149 (by kernel_rfl)
def mQ [AO] (AL:xW):Option Bool:=
 bif !AL.FD then (bnd (lU AL) fun r1=>some r1) else (none)
theorem zBO [AO] {AL A1 c1 r} (h:mQ AL=some r):
    AX Tryz.prog 149 [.agg (xB AL A1 c1).toArray] [.ro (BP vD A1 c1 AL.Conversion.DW)] (Val (.bool r)):=by
 unfold mQ at h
 refine AX.intro Tryz.func149 O O O fun w R=>?_;refine .seq<|.region<|.box O O fun g1=>.b [1] O<|.a 1 O<|.lb 6 0 O<|.n 2 O<|.gs 6 h O (fun h=>?_) (fun h=>?_)
 ·refine .BR O O<|.lb 0 0 O<|.BR O O<|.bd h fun r1 hr1 h=>.cv [1] (gP hr1) Uu O<|.bf [2] [] 2 O O ?_;cases h;exact .rv O O ⟨O,O⟩ zw
 cases h
theorem zWE:BV Tryz.prog 171:=en Tryz.func171 (by kernel_rfl)
def fH (AL:xW) (index:Int) (raw:Int):Option (Int × Int):=
 bnd (nA AL.Conversion.Signed raw) fun r1=>bnd (AU [AL.BI.Raw.e0,AL.BI.Raw.e1,AL.BI.Raw.e2,AL.BI.Raw.e3,AL.BI.Raw.e4,AL.BI.Raw.e5] index) fun x1=>bnd (nA AL.Conversion.Signed x1) fun r2=>bif decide (index≤2) then (some (wrap .i64 (r2 - r1),wrap .i64 AL.GI)) else (some (wrap .i64 (r1 - r2),wrap .i64 AL.GK))
theorem zBW {AL index raw A1 c1 r} (h:fH AL index raw=some r):
    AX Tryz.prog 171 [.agg (xB AL A1 c1).toArray, .int .i64 index, .int .u8 raw] [.ro (BP vD A1 c1 AL.Conversion.DW)] (Val (.tuple #[.int .i64 r.1, .int .i64 r.2])):=by
 refine AX.intro Tryz.func171 O O O fun w R=>?_;refine .seq<|.region<|.box O O fun g1=>.b [1,2,3] O<|.seq<|.regionF mixed (by kernel_rfl)<|.n 2 O<|.lb 8 0 O<|.p O O<|.bd h fun r1 hr1 h=>.cv [] (kQ hr1) Ut O<|.n 2 O<|.lb 8 0 O<|.n 3 O<|.bd h fun x1 hx1 h=>.Qj (sz:=1) hx1 O O O O O O O O<|.Qk (ls:=Je) 0 [.int .u8 AL.Number, .int .u8 AL.FC, .int .u8 AL.Unit, .string AL.Name, .int .u8 AL.Entity.ID, .int .u8 AL.Entity.Instance, .bool AL.FD, .int .i64 AL.Conversion.Form, .bool AL.Conversion.Signed, .int .i64 AL.Conversion.M, .int .i64 AL.Conversion.B, .int .i64 AL.Conversion.K1, .int .i64 AL.Conversion.K2, .slice A1 AL.Conversion.DW.length c1, .int .u8 AL.BI.Mask] [.int .u8 AL.GI, .int .u8 AL.GK, .int .u16 AL.GL, .int .u16 AL.Assert, .int .u16 AL.CY, .bool AL.JX, .int .i64 AL.GY] [(AL.BI.Raw.e0,()),(AL.BI.Raw.e1,()),(AL.BI.Raw.e2,()),(AL.BI.Raw.e3,()),(AL.BI.Raw.e4,()),(AL.BI.Raw.e5,())] (fun ex=>.int .u8 x1) hx1 O O (.head _) O O O trivial O (fun _=>O) fun JD=>?_;obtain _:=JD;refine .nm 2 O<|.bd h fun r2 hr2 h=>.cv [] (kQ hr2) Ut O<|.bq [1,3,8,9] O<|.seq<|.ab [3,8,9,25] O<|.cb h O (fun h=>?_) (fun h=>?_)
 ·refine .seq<|.regionF mixed (by kernel_rfl)<|.n 4 O<|.lb 21 0 O<|.beq O<|.pf [6,7] [] 2 O O ?_;cases h;exact .rv O O ⟨O,O⟩ zw
 refine .sk<|.pr [3,8,9] O<|.seq<|.regionF mixed (by kernel_rfl)<|.n 4 O<|.lb 22 0 O<|.beq O<|.pf [6,7] [] 2 O O ?_;cases h;exact .rv O O ⟨O,O⟩ zw
theorem zWk:BV Tryz.prog 150:=en Tryz.func150 (by kernel_rfl)
def cK [AO] (AL:xW) (state:Int) (raw:Int):Option Int:=
 bnd (zI (τ:=Int) (fun (s1:Int × Int)=>bif decide (s1.2<6) then (bnd (PG .u8 1 s1.2) fun q1=>bnd (fH AL s1.2 raw) fun r1=>bnd ((bif decide (r1.1≥0) then (some true) else (bif ((vL .u8 state (vL .u8 q1 AL.BI.Mask)) != 0) then (none) else (some false)):Option Bool)) fun o2=>bif o2 then (some (.next (CZ .u8 s1.1 (vL .u8 q1 AL.BI.Mask),wrap .i64 (s1.2+1)))) else (some (.next (s1.1,wrap .i64 (s1.2+1))))) else (some (.done s1.1))) (0,0)) fun o1=>some o1
theorem zDH [AO] {AL state raw A1 c1 r} (h:cK AL state raw=some r):
    AX Tryz.prog 150 [.agg (xB AL A1 c1).toArray, .int .u8 state, .int .u8 raw] [.ro (BP vD A1 c1 AL.Conversion.DW)] (Val (.int .u8 r)):=by
 refine AX.intro Tryz.func150 O O O fun w R=>?_;refine .seq<|.region<|.box O O fun g1=>.b [1,2,3] O<|.ae O<|.seq<|.ae O<|.bd h fun o1 hl1 h=>.cu 2 [.s 7 (.int .u8 o1)] [] O O ?_ ?_
 ·refine .block<|.BH hl1 0 (fun (s1:Int × Int) (e1:Unit)=>[1,2,3, .s 7 (.int .u8 s1.1), .s 12 (.int .i64 s1.2)]) (fun s1 e1=>[]) O O () (zb O) (fun _ w=>w) ?_;rintro s1 e1 st1 hm1 hd1 h1;refine .ae O<|.seq<|.cb h1 O (fun h1=>?_) (fun h1=>?_)
  ·refine .sk<|.pr [1,2,3,7,12] O<|.seq<|.block<|.ab [1,2,3,7,8,12] O<|.seq<|.regionF mixed (by kernel_rfl)<|.p O O<|.bd h1 fun q1 hq1 h1=>.shl O O O hq1<|.n 2 O<|.lb 14 0 O<|.bq [1,2,3,7,8,9,12] O<|.seq<|.region<|.lb 0 0 O<|.n 2 O<|.bd h1 fun r1 hr1 h1=>.cv [1] (zBW hr1) zWE O<|.b [1,2,3,7,9,10,11,12] O<|.seq<|.bd h1 fun o2 hj1 h1=>.cu 0 [1,2,3,7,9,12, .s 41 (.bool o2)] [] O O ?_ ?_
   ·refine .region<|.n 3 O<|.gs 30 hj1 O (fun hj1=>?_) (fun hj1=>?_)
    ·cases hj1;exact .be O<|.hU O zw
    refine .n 5 O<|.gs 35 hj1 O (fun hj1=>?_) (fun hj1=>?_)
    ·cases hj1
    cases hj1;exact .be O<|.hU O zw
   refine .cb h1 O (fun h1=>?_) (fun h1=>?_)
   ·refine .region<|.n 4 O<|.done<|.BF<|.AB<|.pr [1,2,3,7,12] O<|.region ?_;cases h1;exact .be O<|.ag () hm1 O zw
   refine .skip<|.BF<|.AB<|.pr [1,2,3,7,12] O<|.region ?_;cases h1;exact .be O<|.ag () hm1 O zw
  refine .xq O ?_;cases h1;cases hd1 _ rfl
  exact .AB<|.hU O (zl [] 2 O)
 refine .ab [6] O ?_;cases h;exact .rv O O ⟨O,O⟩ zw
theorem zXw:BV Tryz.prog 110:=en Tryz.func110 (by kernel_rfl)
def cM [AO] (AL:xW) (state:Int) (raw:Int):Option (Int × (List jU) × Int):=
 bnd (mQ AL) fun r1=>bif !r1 then (none) else (bif ((mC .u8 state AL.BI.Mask) != 0) then (none) else (bnd (cK AL state raw) fun r2=>bnd (zI (τ:=List jU) (fun (s1:List jU × Int)=>bif decide (s1.2<6) then (bnd (WV .u8 (lI .u8 state r2) s1.2) fun q1=>bif ((vL .u8 q1 1)==1) then (bnd (WV .u8 r2 s1.2) fun q2=>bnd (app 16 s1.1 [(⟨s1.2,((vL .u8 q2 1)==1)⟩:jU)]) fun l1=>some (.next (l1,wrap .i64 (s1.2+1)))) else (some (.next (s1.1,wrap .i64 (s1.2+1))))) else (some (.done s1.1))) ([],0)) fun o1=>some (r2,o1,0)))
theorem zDE [AO] {AL state raw A1 c1 r} (h:cM AL state raw=some r):
    AX Tryz.prog 110 [.agg (xB AL A1 c1).toArray, .int .u8 state, .int .u8 raw] [.ro (BP vD A1 c1 AL.Conversion.DW)] (fun v F=>∃ A2 c2,v= .tuple #[.int .u8 r.1, .slice A2 r.2.1.length c2, .int .i64 r.2.2]∧F= [.res (zD jR 232 A2 c2 r.2.1)]):=by
 refine AX.intro Tryz.func110 O O O fun w R=>?_;refine .seq<|.region<|.box O O fun g1=>.b [1,2,3] O<|.seq<|.block<|.seq<|.region<|.lb 0 0 O<|.bd h fun r1 hr1 h=>.cv [1] (zBO hr1) zWZ O<|.b [1,2,3,12] O<|.cb h O (fun h=>?_) (fun h=>?_)
 ·cases h
 refine .a 3 O<|.lb 14 0 O<|.b [1,2,3,16] O<|.cb h O (fun h=>?_) (fun h=>?_)
 ·cases h
 refine .skip<|.BF<|.AB<|.pr [1,2,3] O<|.seq<|.region<|.lb 0 0 O<|.n 2 O<|.bd h fun r2 hr2 h=>.cv [1] (zDH hr2) zWk O<|.bf [1,9] [] 2 O O<|.ae O<|.seq<|.ae O<|.AQ (fun _ w=>w.EH jR 232)<|.bd h fun o1 hl1 h=>.DZ 1 (fun (e2:Option Addr × Nat)=>[9, .s 10 (.slice e2.1 o1.length e2.2)]) (fun e2=>[.res (zD jR 232 e2.1 e2.2 o1)]) O O ?_ ?_
 ·refine .block<|.BH hl1 1 (fun (s1:List jU × Int) (e1:Option Addr × Nat)=>[1,9, .s 10 (.slice e1.1 s1.1.length e1.2), .s 27 (.int .i64 s1.2)]) (fun s1 e1=>[.res (zD jR 232 e1.1 e1.2 s1.1)]) O O (none,0) (zb O) (fun _ w=>w) ?_;rintro s1 ⟨A2,c2⟩ st1 hm1 hd1 h1;refine .ae O<|.seq<|.cb h1 O (fun h1=>?_) (fun h1=>?_)
  ·refine .sk<|.pr [1,9,10,27] O<|.seq<|.block<|.ab [1,9,10,11,27] O<|.a 4 O<|.bd h1 fun q1 hq1 h1=>.shr O O O hq1<|.b [1,9,10,11,27,36] O<|.cb h1 O (fun h1=>?_) (fun h1=>?_)
   ·refine .region<|.n 4 O<|.bd h1 fun q2 hq2 h1=>.shr O O O hq2<|.n 3 O<|.bS O fun g2=>.bd h1 fun l1 hl1 h1=>.app (E:=jR) hl1 O O O (.s .z) O O O O O O O O (oP (.head _) O O) O O fun A4 c4=>.p O O<|.done<|.BF<|.AB<|.pf [1,9,10,27] [0] 1 O O<|.region ?_;cases h1;exact .be O<|.ag (A4,c4) hm1 O zw
   refine .skip<|.BF<|.AB<|.pr [1,9,10,27] O<|.region ?_;cases h1;exact .be O<|.ag (A2,c2) hm1 O zw
  refine .xq O ?_;cases h1;cases hd1 _ rfl
  exact .AB<|.hE (A2,c2) O zw
 rintro ⟨A3,c3⟩;refine .ab [6,7,8] O ?_;cases h;exact .rv O O ⟨A3,c3,O,O⟩ zw
theorem zYf:BV Tryz.prog 71:=en Tryz.func71 (by kernel_rfl)
def kA [AO] (DJ:sI) (GN:Int) (MV:lP):Option (sI × (List jU) × Int):=
 bnd (AU DJ.AZ GN) fun x1=>bif x1.FD then (none) else (bnd (AU DJ.filters GN) fun x2=>bnd (AU DJ.filters GN) fun x3=>bnd (aV x1 x3 MV.Raw MV.OK) fun r1=>bnd (AU DJ.filters GN) fun x4=>bnd (xJ DJ.filters GN r1.1) fun l1=>bnd (AU l1 GN) fun x5=>bnd (fI x1 x5) fun r2=>bif !r2.2 then (none) else (bnd (AU DJ.states GN) fun x6=>bnd (AU DJ.states GN) fun x7=>bnd (cM x1 (wrap .u8 x7) r2.1) fun r3=>bnd (AU DJ.states GN) fun x8=>bnd (xJ DJ.states GN (wrap .u16 r3.1)) fun l2=>some ((⟨DJ.AZ,DJ.l,l1,l2⟩:sI),r3.2.1,r2.1)))
theorem aT [AO] {DJ GN MV A1 c1 A2 c2 A3 c3 A4 c4 BN r} (h:kA DJ GN MV=some r):
    AX Tryz.prog 71 [.pointer (some ⟨BN,0,none⟩), .int .i64 GN, .agg (eJ MV).toArray] [.ro (Sl (yL yI) A1 c1 DJ.AZ), .ro (BP zX A2 c2 DJ.l), .res (Box BN 167 (uS DJ A1 c1 A2 c2 A3 c3 A4 c4)), .res (uD (yL yO) 176 A3 c3 DJ.filters), .res (zD jM 71 A4 c4 DJ.states)] (fun v F=>∃ A5 c5 A6 c6 A7 c7 A8 c8 A9 c9,v= .tuple #[.slice A9 r.2.1.length c9, .int .u8 r.2.2]∧F= [.ro (Sl (yL yI) A5 c5 r.1.AZ), .ro (BP zX A6 c6 r.1.l), .res (Box BN 167 (uS r.1 A5 c5 A6 c6 A7 c7 A8 c8)), .res (uD (yL yO) 176 A7 c7 r.1.filters), .res (zD jM 71 A8 c8 r.1.states), .res (zD jR 232 A9 c9 r.2.1)]):=by
 refine AX.intro Tryz.func71 O O O fun w R=>?_;refine .seq<|.region<|.box O O fun g1=>.b [0,1,5] O<|.a 3 O<|.lb 0 3 O<|.p O O<|.bd h fun x1 hx1 h=>.RZ hx1 1 O fun b1 ED JD=>?_;obtain ⟨⟨A5,c5⟩,_⟩:=JD;refine .nm 8 O<|.ld ED 0 0 O<|.alloc O O fun g2=>.sb 0 0 O<|.bf [0,1,5,8] [0] 1 O O<|.ae O<|.seq<|.a 1 O<|.lb 6 0 O<|.b [0,1,5,8,9,22] O<|.cb h O (fun h=>?_) (fun h=>?_)
 ·cases h
 refine .sk<|.pr [0,1,5,8] O<|.seq<|.bd h fun x2 hx2 h=>.LQ (zm 6 O) hx2 fun g3 hA=>?_;subst hA;refine .bd h fun x3 hx3 h=>.bd h fun r1 hr1 h=>.bd h fun x4 hx4 h=>.bd h fun l1 hl1 h=>.BG (iN [0,4,8,16,20,24,28,32,40,52,56,60,64] (.alt (iN [15] (iN [39,44] (iN [51] (iN [71,72,76,80,85] (iN [91] .nil))))) (iN [39,44] (.alt (iN [15] (iN [51] (iN [71,72,76,80,85] (iN [91] .nil)))) (iN [51] (.alt (iN [15] (iN [71,72,76,80,85] (iN [91] .nil))) (iN [71,72,76,80] (iN [15,85] (iN [91] .nil))))))))) _ mixed (by kernel_rfl) (zl [0,0,0,0,0] 2 O)<|.EC (Y:=?JE) 0 (fun (e:Option Addr × Nat × Option Addr × Nat)=>[0,1,8, .s 47 (.tuple #[.agg #[.slice e.1 r1.1.Window.length e.2.1, .int .i64 r1.1.Missing], .int .i64 r1.2]), .s 51 (.slice (some ⟨g3,0,none⟩) DJ.filters.length c3), .s 52 (.int .i64 GN), .s 57 (.slice (some ⟨g3,0,none⟩) DJ.filters.length c3), .s 58 (.int .i64 GN), .s 65 (.tuple #[.agg #[.slice e.1 r1.1.Window.length e.2.1, .int .i64 r1.1.Missing], .int .i64 r1.2]), .s 66 (.agg #[.slice e.1 r1.1.Window.length e.2.1, .int .i64 r1.1.Missing]), .s 68 (.pointer (some ⟨g3,Int.toNat GN*2,none⟩))]) (fun e=>[.ro (BP AP e.1 e.2.1 r1.1.Window), .ro (BP AP e.2.2.1 e.2.2.2 x3.Window)]) O O (fun DT=>?EW) ?EX
 case EW=>
  refine .EC (Y:=?LX) 0 (fun (e:Option Addr × Nat)=>[0,1,8, .s 51 (.slice (some ⟨g3,0,none⟩) DJ.filters.length c3), .s 52 (.int .i64 GN), .s 53 (.agg (xB x1 A5 c5).toArray), .s 57 (.slice (some ⟨g3,0,none⟩) DJ.filters.length c3), .s 58 (.int .i64 GN), .s 60 (.agg #[.slice e.1 x3.Window.length e.2, .int .i64 x3.Missing]), .s 62 (.int .u8 MV.Raw), .s 64 (.bool MV.OK)]) (fun e=>[.ro (BP AP e.1 e.2 x3.Window)]) O O (fun FK=>?IJ) ?IK
  case IJ=>
   refine .EC (Y:=?UK) 0 (fun (e:Unit)=>[0,1,8, .s 51 (.slice (some ⟨g3,0,none⟩) DJ.filters.length c3), .s 52 (.int .i64 GN), .s 53 (.agg (xB x1 A5 c5).toArray), .s 57 (.slice (some ⟨g3,0,none⟩) DJ.filters.length c3), .s 58 (.int .i64 GN), .s 59 (.pointer (some ⟨g3,Int.toNat GN*2,none⟩)), .s 62 (.int .u8 MV.Raw), .s 64 (.bool MV.OK)]) (fun e=>[]) O O (fun JO=>?LY) ?LZ
   case LY=>
    refine .yn 4 O<|.yl 0 0 O<|.yn 5 O<|.yl 2 2 O<|.yn 1 O<|.yl 1 2 O<|.GZ ?_ ?_
    ·refine .BZ<|.lb 2 5 O<|.xk (zl [0,0,0,0,0] 2 O)<|.BZ<|.lb 2 5 O<|.xk (zl [0,0,0,0,0] 2 O)<|.IG (fun _ h=>h) (Rd.KH (n':=2) hx3 O O O O O O O) O ?_;refine JO _ _ () ?_ ?_
     ·exact ⟨O,O,O,O,O,O,O,O,O,O,O,trivial⟩
     exact fun _ w=>w
    refine .BZ<|.lb 2 5 O<|.xk (zl [0,0,0,0,0] 2 O)<|.IG (fun _ h=>h) (Rd.KH (n':=2) hx3 O O O O O O O) O<|.GZ ?_ ?_
    ·refine .BZ<|.lb 2 5 O<|.xk (zl [0,0,0,0,0] 2 O) ?_;refine JO _ _ () ?_ ?_
     ·exact ⟨O,O,O,O,O,O,O,O,O,O,O,trivial⟩
     exact fun _ w=>w
    refine .BZ<|.YE (ls:=yO) 0 (fun ex=>.agg #[.slice ex.1.1 x3.Window.length ex.1.2, .int .i64 x3.Missing]) hx3 O O (zm 6 O) O (fun _=>O) fun SN=>?_;obtain ⟨⟨A6,c6⟩,_⟩:=SN;refine .nm 9 O<|.xk (zl [1,1,1,1,1] 3 O)<|.GZ ?_ ?_
    ·refine .BZ<|.lb 2 6 O<|.xk (zl [1,1,1,1,1] 3 O) ?_;refine FK _ _ (A6,c6) ?_ ?_
     ·exact ⟨O,O,O,O,O,O,O,O,O,O,O,trivial⟩
     exact fun _ w=>w
    refine .BZ<|.cr 10 [2,0] [] 0 (zAd hr1) zTr O fun A7 c7=>.xk (zl [2,2,2,2,2] 4 O)<|.yn 3 O<|.BZ<|.lb 2 7 O<|.xk (zl [2,2,2,2,2] 4 O)<|.DR (Rd.KH (n':=2) hx4 O O O O O O O) O ?_;refine DT _ _ (A7,c7,A6,c6) ?_ ?_
    ·exact ⟨O,O,O,O,O,O,O,O,O,O,O,trivial⟩
    exact fun _ w=>w
   case LZ=>
    rintro ⟨⟩;refine .nm 8 O<|.BZ<|.YE (ls:=yO) 0 (fun ex=>.agg #[.slice ex.1.1 x3.Window.length ex.1.2, .int .i64 x3.Missing]) hx3 O O (zm 6 O) O (fun _=>O) fun SN=>?_;obtain ⟨⟨A6,c6⟩,_⟩:=SN;refine .nm 9 O<|.xk (zl [1,1,1,1,1] 3 O) ?_;refine FK _ _ (A6,c6) ?_ ?_
    ·exact ⟨O,O,O,O,O,O,O,O,O,O,O,trivial⟩
    exact fun _ w=>w
  case IK=>
   rintro ⟨A6,c6⟩;refine .nm 9 O<|.BZ<|.cr 10 [2,0] [] 0 (zAd hr1) zTr O fun A7 c7=>.xk (zl [2,2,2,2,2] 4 O)<|.yn 3 O<|.DR (Rd.KH (n':=2) hx4 O O O O O O O) O ?_;refine DT _ _ (A7,c7,A6,c6) ?_ ?_
   ·exact ⟨O,O,O,O,O,O,O,O,O,O,O,trivial⟩
   exact fun _ w=>w
 case EX=>
  rintro ⟨A7,c7,A6,c6⟩;refine .nm 10 O<|.BZ<|.yw (ls:=yO) 0 (fun ex=>((A7,c7),())) hx4 hl1 O O (FX 8 O) O O O O (fun _=>O) (fun _=>⟨EI,trivial⟩) ?_;refine .ss 51 (zF hl1) ?_;refine .ss 57 (zF hl1)<|.AQ (F':=.res (uD (yL yO) 176 (some ⟨g3,0,none⟩) c3 l1):: .ro (BP AP A7 c7 r1.1.Window):: .ro (BP AP A6 c6 x3.Window):: .res (Box g2 90 (xB x1 A5 c5)):: .ro (BP vD A5 c5 x1.Conversion.DW):: .res (Box g1 97 (eJ MV)):: .ro (Sl (yL yI) A1 c1 DJ.AZ):: .ro (BP zX A2 c2 DJ.l):: .res (Box BN 167 [.slice A1 DJ.AZ.length c1, .slice A2 DJ.l.length c2, .slice (some ⟨g3,0,none⟩) l1.length c3, .slice A4 DJ.states.length c4]):: .res (zD jM 71 A4 c4 DJ.states)::R) (fun _ w=>by rw [fO hl1]; exact w)<|.xk (zl [3,3,3,3,3] 4 O)<|.BX<|.AB<|.pf [0,1,8] [0,2,2] 3 O O<|.seq<|.regionF mixed (by kernel_rfl)<|.lb 0 1 O<|.n 3 O<|.lb 2 5 O<|.p O O<|.bd h fun x5 hx5 h=>.ixC hx5 O O O (.head _) O O O O O fun g6 hA=>?_;cases hA;refine .YE (ls:=yO) 0 (fun ex=>.agg #[.slice ex.1.1 x5.Window.length ex.1.2, .int .i64 x5.Missing]) hx5 O O (.head _) O (fun _=>O) fun ex3=>?_;obtain ⟨⟨A8,c8⟩,_⟩:=ex3;refine .nm 8 O<|.bd h fun r2 hr2 h=>.cv [3,0] (zBV hr2) zXf O<|.beq O<|.pf [0,1,8,10,11] [] 1 O O<|.seq<|.ab [0,1,8,10,82] O<|.cb h O (fun h=>?_) (fun h=>?_)
  ·cases h
  refine .sk<|.pr [0,1,8,10] O<|.seq<|.bd h fun x6 hx6 h=>.JU (zm 6 O) hx6 fun g7 hA=>?_;subst hA;refine .BG (iN [1,4,8,12,17,20,25,29,32,36,43,44,48,52,56,60,64,68] .nil) _ mixed (by kernel_rfl) zw<|.yx 0 1 O<|.yn 3 O<|.yx 3 5 O<|.yn 1 O<|.bd h fun x7 hx7 h=>.DR (Rd.FO (E:=jM) hx7 O O O O O O O) O<|.DR (Rd.EZ 0 hx7 O (zm 6 O) O O) O<|.yn 2 O<|.BZ<|.bd h fun r3 hr3 h=>.cr 8 [2] [] 0 (zDE hr3) zXw O fun A9 c9=>.xk (zl [] 1 O)<|.yn 7 O<|.BX<|.AB<|.pf [0,1,9,10,12] [0,0] 2 O O<|.a 3 O<|.lb 3 4 O<|.n 3 O<|.bd h fun x8 JL h=>.II JL 5 O fun g9 hA=>?_;cases hA;refine .bd h fun l2 hl2 h=>.IY 0 JL hl2 O O (FX 5 O) O O O O O ?_;refine .ss 101 (zF hl2)<|.AQ (F':=.res (zD jM 71 (some ⟨g7,0,none⟩) c4 l2):: .res (zD jR 232 A9 c9 r3.2.1):: .res (uD (yL yO) 176 (some ⟨g3,0,none⟩) c3 l1):: .ro (Sl (yL yI) A1 c1 DJ.AZ):: .ro (BP zX A2 c2 DJ.l):: .res (Box BN 167 [.slice A1 DJ.AZ.length c1, .slice A2 DJ.l.length c2, .slice (some ⟨g3,0,none⟩) l1.length c3, .slice (some ⟨g7,0,none⟩) l2.length c4])::R) (fun _ w=>by rw [fO hl2]; exact w)<|.b [9,10] O<|.ab [6,7] O ?_;cases h;exact .rv O O ⟨A1,c1,A2,c2,(some ⟨g3,0,none⟩),c3,(some ⟨g7,0,none⟩),c4,A9,c9,O,O⟩ (zk 6 2 [4,5] [5,2] 0 O)
theorem zXI:BV Tryz.prog 111:=en Tryz.func111 (by kernel_rfl)
def lN (EY:Int) (number:Int) (index:Int) (asserted:Bool) (reading:Int) (limit:Int):Option (zU × Int):=
 bif decide (index<0) then (none) else (bif decide (index≥6) then (none) else (bnd (AU ([0,2,4,7,9,11]:List Int) index) fun x1=>some ((⟨0,0,32,EY,number,1,!asserted,(⟨wrap .u8 (80+x1),reading,limit⟩:(dB Int))⟩:zU),0)))
theorem zDw {EY number index asserted reading limit r} (h:lN EY number index asserted reading limit=some r):
    AX Tryz.prog 111 [.int .u8 EY, .int .u8 number, .int .i64 index, .bool asserted, .int .u8 reading, .int .u8 limit] [.ro (BP AP (some ⟨1,0,none⟩) 6 ([0,2,4,7,9,11]:List Int))] (Val (.tuple #[.agg (jD r.1).toArray, .int .i64 r.2])):=by
 unfold lN at h
 refine AX.intro Tryz.func111 O O O fun w R=>?_;refine .seq<|.region<|.alloc O O fun g1=>.b [0,1,2,3,4,5,12] O<|.seq<|.a 3 O<|.gs 16 h O (fun h=>?_) (fun h=>?_)
 ·cases h
 refine .b [0,1,2,3,4,5,12,19] O<|.cb h O (fun h=>?_) (fun h=>?_)
 ·cases h
 refine .sk<|.pr [0,1,2,3,4,5,12] O<|.a 5 O<|.bd h fun x1 hx1 h=>.oq (E:=AP) hx1 O O O EI O O O O O fun b1 ED=>.ld ED 0 0 O<|.n 5 O<|.sb 0 1 O<|.bf [12,13] [0] 1 O O ?_;cases h;exact .rt O Tryz.results111 (.cell O (.head _) O (.tmp O .nil)) O ⟨O,O⟩ (zl [] 2 O)
theorem zYg:BV Tryz.prog 72:=en Tryz.func72 (by kernel_rfl)
def bC [AO] (AL:xW) (FP:(List jU)) (raw:Int):Option (List zU):=
 bnd (zI (τ:=List zU) (fun (s1:List zU × Int)=>bif decide (s1.2<(FP.length:Int)) then (bnd (AU FP s1.2) fun x1=>bif x1.Asserted then (bnd (WV .u16 AL.Assert x1.Index) fun q1=>bif ((vL .u16 q1 1)==0) then (none) else (bif AL.FD then (none) else (bnd (AU [AL.BI.Raw.e0,AL.BI.Raw.e1,AL.BI.Raw.e2,AL.BI.Raw.e3,AL.BI.Raw.e4,AL.BI.Raw.e5] x1.Index) fun x2=>bnd (lN AL.FC AL.Number x1.Index x1.Asserted raw x2) fun r1=>bnd (app 20 s1.1 [r1.1]) fun l1=>some (.next (l1,wrap .i64 (s1.2+1)))))) else (none)) else (some (.done s1.1))) ([],0)) fun o1=>some o1
theorem zDS [AO] {AL FP raw A1 c1 A2 c2 r} (h:bC AL FP raw=some r):
    AX Tryz.prog 72 [.agg (xB AL A1 c1).toArray, .slice A2 FP.length c2, .int .u8 raw] [.ro (BP vD A1 c1 AL.Conversion.DW), .ro (BP jR A2 c2 FP), .ro (BP AP (some ⟨1,0,none⟩) 6 ([0,2,4,7,9,11]:List Int))] (fun v F=>∃ A3 c3,v= .slice A3 r.length c3∧F= [.res (zD uP 76 A3 c3 r)]):=by
 refine AX.intro Tryz.func72 O O O fun w R=>?_;refine .seq<|.region<|.box O O fun g1=>.b [1,2,3] O<|.ae O<|.seq<|.ab [2,3,7,12,13,14] O<|.AQ (fun _ w=>w.EH uP 76)<|.bd h fun o1 hl1 h=>.DZ 4 (fun (e2:Option Addr × Nat)=>[.s 7 (.slice e2.1 o1.length e2.2)]) (fun e2=>[.res (zD uP 76 e2.1 e2.2 o1)]) O O ?_ ?_
 ·refine .block<|.BH hl1 1 (fun (s1:List zU × Int) (e1:Option Addr × Nat)=>[2,3, .s 7 (.slice e1.1 s1.1.length e1.2),12,13, .s 14 (.int .i64 s1.2)]) (fun s1 e1=>[.res (zD uP 76 e1.1 e1.2 s1.1)]) O O (none,0) (zb O) (fun _ w=>w) ?_;rintro s1 ⟨A3,c3⟩ st1 hm1 hd1 h1;refine .ae O<|.seq<|.cb h1 O (fun h1=>?_) (fun h1=>?_)
  ·refine .sk<|.pr [2,3,7,12,13,14] O<|.seq<|.block<|.seq<|.region<|.bd h1 fun x1 hx1 h1=>.FB hx1 3 O fun b1 ED=>.ld ED 0 0 O<|.alloc O O fun g2=>.sb 0 0 O<|.bf [2,3,7,9,12,13,14] [0] 1 O O<|.a 1 O<|.lb 25 2 O<|.b [2,3,7,9,10,12,13,14] O<|.seq<|.a 1 O<|.lb 1 0 O<|.b [2,3,7,9,10,12,13,14,21] O<|.cb h1 O (fun h1=>?_) (fun h1=>?_)
   ·refine .region<|.p O O<|.lb 24 2 O<|.b [2,3,7,9,10,12,13,14] O<|.seq<|.a 2 O<|.lb 0 0 O<|.bd h1 fun q1 hq1 h1=>.shr O O O hq1<|.b [2,3,7,9,12,13,14,29] O<|.cb h1 O (fun h1=>?_) (fun h1=>?_)
    ·cases h1
    refine .sk<|.pr [2,3,7,9,12,13,14] O<|.seq<|.region<|.alloc O O fun g3=>.done<|.AB<|.seq<|.a 1 O<|.lb 6 3 O<|.b [2,3,7,9,11,12,13,14,31] O<|.cb h1 O (fun h1=>?_) (fun h1=>?_)
    ·cases h1
    refine .BG (iN [0,4,8,12,16,20,24,28,32,36,41,44,48,55,59,62,64,68,72,79] .nil) _ mixed (by kernel_rfl) (zl [] 1 O)<|.yn 1 O<|.yl 1 2 O<|.yn 1 O<|.yl 0 2 O<|.yn 1 O<|.yl 0 0 O<|.yn 1 O<|.yl 1 0 O<|.yn 2 O<|.yx 0 1 O<|.yn 2 O<|.BZ<|.bd h1 fun x2 hx2 h1=>.Qj (sz:=1) hx2 O O O O O O O O<|.xk (zl [] 1 O)<|.BZ<|.Qk (ls:=Je) 0 [.int .u8 AL.Number, .int .u8 AL.FC, .int .u8 AL.Unit, .string AL.Name, .int .u8 AL.Entity.ID, .int .u8 AL.Entity.Instance, .bool AL.FD, .int .i64 AL.Conversion.Form, .bool AL.Conversion.Signed, .int .i64 AL.Conversion.M, .int .i64 AL.Conversion.B, .int .i64 AL.Conversion.K1, .int .i64 AL.Conversion.K2, .slice A1 AL.Conversion.DW.length c1, .int .u8 AL.BI.Mask] [.int .u8 AL.GI, .int .u8 AL.GK, .int .u16 AL.GL, .int .u16 AL.Assert, .int .u16 AL.CY, .bool AL.JX, .int .i64 AL.GY] [(AL.BI.Raw.e0,()),(AL.BI.Raw.e1,()),(AL.BI.Raw.e2,()),(AL.BI.Raw.e3,()),(AL.BI.Raw.e4,()),(AL.BI.Raw.e5,())] (fun ex=>.int .u8 x2) hx2 O O (zm 3 O) O O O trivial O (fun _=>O) fun JD=>?_;obtain _:=JD;refine .nm 7 O<|.xk (zl [] 1 O)<|.bd h1 fun r1 hr1 h1=>.YC (fun _ h=>h) (zDw hr1) zXI O O O O (za [5] O)<|.yn 3 O<|.BZ<|.sb 0 0 O<|.xk (zl [] 1 O)<|.BX<|.AB<|.pf [2,3,7,11,12,13,14] [0] 1 O O<|.region<|.p O O<|.lb 0 0 O<|.bS O fun g4=>.bd h1 fun l1 hl1 h1=>.app (E:=uP) hl1 O O O (FX 2 O) O O O O O O O O (oP (.head _) O O) O O fun A5 c5=>.p O O<|.done<|.BF<|.AB<|.pf [2,3,7,12,13,14] [0] 2 O O<|.region ?_;cases h1;exact .be O<|.ag (A5,c5) hm1 O zw
   cases h1
  refine .xq O ?_;cases h1;cases hd1 _ rfl
  exact .AB<|.hE (A3,c3) O (zl [0] 3 O)
 rintro ⟨A4,c4⟩;refine .ab [6] O ?_;cases h;exact .rv O O ⟨A4,c4,O,O⟩ (zl [0] 1 O)
theorem zYu:BV Tryz.prog 28:=en Tryz.func28 (by kernel_rfl)
def kC [AO] (DJ:sI) (FI:(List lP)) (absent:(List wG)) (host:Bool):Option (sI × (List zU) × Int):=
 bnd (lD DJ FI) fun r1=>bif (r1 != 0) then (none) else (bnd (zI (τ:=sI × List zU) (fun (s1:sI × List zU × Int)=>bif decide (s1.2.2<(DJ.AZ.length:Int)) then (bnd (AU DJ.AZ s1.2.2) fun x1=>bnd (cP s1.1.l absent x1.Entity) fun r2=>bif !r2.1 then (none) else (bif x1.JX then (none) else (bnd (uI FI x1) fun r3=>bif decide (r3≥0) then (bnd (AU FI r3) fun x2=>bnd (kA s1.1 s1.2.2 x2) fun r4=>bnd (bC x1 r4.2.1 r4.2.2) fun r5=>bnd (app 20 s1.2.1 r5) fun l1=>some (.next (r4.1,l1,wrap .i64 (s1.2.2+1)))) else (none)))) else (some (.done (s1.1,s1.2.1)))) (DJ, [],0)) fun o1=>some (o1.1,o1.2,0))
theorem aO [AO] {DJ FI absent host A1 c1 A2 c2 A3 c3 A4 c4 A5 c5 A6 c6 BN r} (h:kC DJ FI absent host=some r):
    AX Tryz.prog 28 [.pointer (some ⟨BN,0,none⟩), .slice A5 FI.length c5, .slice A6 absent.length c6, .bool host] [.ro (Sl (yL yI) A1 c1 DJ.AZ), .ro (BP zX A2 c2 DJ.l), .ro (BP Jg A5 c5 FI), .ro (BP sS A6 c6 absent), .ro (BP AP (some ⟨1,0,none⟩) 6 ([0,2,4,7,9,11]:List Int)), .res (Box BN 167 (uS DJ A1 c1 A2 c2 A3 c3 A4 c4)), .res (uD (yL yO) 176 A3 c3 DJ.filters), .res (zD jM 71 A4 c4 DJ.states)] (fun v F=>∃ A7 c7 A8 c8 A9 c9 MR c10 OQ c11,v= .tuple #[.slice OQ r.2.1.length c11, .int .i64 r.2.2]∧F= [.ro (Sl (yL yI) A7 c7 r.1.AZ), .ro (BP zX A8 c8 r.1.l), .res (Box BN 167 (uS r.1 A7 c7 A8 c8 A9 c9 MR c10)), .res (uD (yL yO) 176 A9 c9 r.1.filters), .res (zD jM 71 MR c10 r.1.states), .res (zD uP 76 OQ c11 r.2.1)]):=by
 refine AX.intro Tryz.func28 O O O fun w R=>?_;refine .ab [0,1,2,3] O<|.seq<|.a 2 O<|.bd h fun r1 hr1 h=>.cq 8 [3,4,5] [5,5,5] 0 (cB hr1) zYB O<|.b [0,1,2,3,10] O<|.ab [0,1,2,3,10,24] O<|.cb h O (fun h=>?_) (fun h=>?_)
 ·cases h
 refine .sk<|.pr [0,1,2,3] O<|.ae O<|.seq<|.a 3 O<|.lb 0 0 O<|.b [0,1,2,3,11,29,30,31] O<|.AQ (fun _ w=>w.EH uP 76)<|.bd h fun o1 hl1 h=>.DZ 8 (fun (e2:Option Addr × Nat × Option Addr × Nat × Option Addr × Nat × Option Addr × Nat × Option Addr × Nat)=>[.s 11 (.slice e2.2.2.2.2.2.2.2.2.1 o1.2.length e2.2.2.2.2.2.2.2.2.2)]) (fun e2=>[.res (zD uP 76 e2.2.2.2.2.2.2.2.2.1 e2.2.2.2.2.2.2.2.2.2 o1.2), .res (zD jM 71 e2.2.2.2.2.2.2.1 e2.2.2.2.2.2.2.2.1 o1.1.states), .res (uD (yL yO) 176 e2.2.2.2.2.1 e2.2.2.2.2.2.1 o1.1.filters), .ro (BP zX e2.2.2.1 e2.2.2.2.1 o1.1.l), .ro (Sl (yL yI) e2.1 e2.2.1 o1.1.AZ), .res (Box BN 167 (uS o1.1 e2.1 e2.2.1 e2.2.2.1 e2.2.2.2.1 e2.2.2.2.2.1 e2.2.2.2.2.2.1 e2.2.2.2.2.2.2.1 e2.2.2.2.2.2.2.2.1))]) O O ?_ ?_
 ·refine .block<|.BH hl1 6 (fun (s1:sI × List zU × Int) (e1:Option Addr × Nat × Option Addr × Nat × Option Addr × Nat × Option Addr × Nat × Option Addr × Nat)=>[0,1,2,3, .s 11 (.slice e1.2.2.2.2.2.2.2.2.1 s1.2.1.length e1.2.2.2.2.2.2.2.2.2),29,30, .s 31 (.int .i64 s1.2.2)]) (fun s1 e1=>[.res (zD uP 76 e1.2.2.2.2.2.2.2.2.1 e1.2.2.2.2.2.2.2.2.2 s1.2.1), .res (zD jM 71 e1.2.2.2.2.2.2.1 e1.2.2.2.2.2.2.2.1 s1.1.states), .res (uD (yL yO) 176 e1.2.2.2.2.1 e1.2.2.2.2.2.1 s1.1.filters), .ro (BP zX e1.2.2.1 e1.2.2.2.1 s1.1.l), .ro (Sl (yL yI) e1.1 e1.2.1 s1.1.AZ), .res (Box BN 167 (uS s1.1 e1.1 e1.2.1 e1.2.2.1 e1.2.2.2.1 e1.2.2.2.2.1 e1.2.2.2.2.2.1 e1.2.2.2.2.2.2.1 e1.2.2.2.2.2.2.2.1)),4]) O O (A1,c1,A2,c2,A3,c3,A4,c4,none,0) (zb O) (fun _ w=>((.k (.k (.k (.k (.k (.k (.k (.k (.k (.k .z)))))))))):mM _ _).sat ((((((((((((w.sd [4] [] 0 O)).front (FX 9 O)).front (FX 9 O)).front (FX 9 O)).front (FX 3 O)).front (FX 5 O)).front (FX 8 O)).front (FX 9 O)).front (FX 8 O)).front (FX 9 O)).front (FX 9 O))) ?_;rintro s1 ⟨A7,c7,A8,c8,A9,c9,MR,c10,OQ,c11⟩ st1 hm1 hd1 h1;refine .ae O<|.seq<|.cb h1 O (fun h1=>?_) (fun h1=>?_)
  ·refine .sk<|.pr [0,1,2,3,11,29,30,31] O<|.seq<|.block<|.a 1 O<|.bd h1 fun x1 hx1 h1=>.RZ hx1 6 O fun b1 ED JD=>?_;obtain ⟨⟨TJ,c17⟩,_⟩:=JD;refine .nm 12 O<|.ld ED 0 0 O<|.alloc O O fun g1=>.p O O<|.sb 0 0 O<|.bf [0,1,2,3,11,12,13,29,30,31] [0] 1 O O<|.seq<|.seq<|.regionF mixed (by kernel_rfl)<|.n 3 O<|.lb 1 7 O<|.n 2 O<|.lb 4 0 O<|.bd h1 fun r2 hr2 h1=>.cv [5,10] (zEa hr2) zYj O<|.bq [0,1,2,3,11,12,13,14,29,30,31] O<|.a 3 O<|.gs 49 h1 O (fun h1=>?_) (fun h1=>?_)
   ·cases h1
   refine .n 1 O<|.BR O O<|.lb 26 0 O<|.n 1 O<|.gs 52 h1 O (fun h1=>?_) (fun h1=>?_)
   ·cases h1
   refine .b [0,1,2,3,11,12,13,29,30,31,56] O<|.FN O<|.sk<|.pr [0,1,2,3,11,12,13,29,30,31] O<|.a 1 O<|.lb 0 0 O<|.p O O<|.alloc O O fun g2=>.sb 0 0 O<|.b [0,1,2,3,11,12,13,16,29,30,31] O<|.seq<|.a 2 O<|.bd h1 fun r3 hr3 h1=>.cq 13 [10,2] [1] 0 (qE hr3) zXY O<|.b [0,1,2,3,11,12,13,16,17,29,30,31] O<|.ab [0,1,2,3,11,12,13,16,17,29,30,31,71] O<|.cb h1 O (fun h1=>?_) (fun h1=>?_)
   ·refine .region<|.n 2 O<|.bd h1 fun x2 hx2 h1=>.FB hx2 10 O fun b2 JA=>.ld JA 0 0 O<|.sb 0 2 O<|.bf [0,1,2,3,11,12,13,16,29,30,31] [0] 1 O O<|.a 2 O<|.lb 0 0 O<|.bd h1 fun r4 hr4 h1=>.call (aT hr4) zYf O O O (zd [8,7] [8,5,4] 0 O) ?_;rintro _ _ ⟨VB,c18,SL,c19,VD,c20,YQ,c21,qo,qp,rfl,rfl⟩;refine .nm 16 O<|.bf [0,1,2,3,11,13,18,19,29,30,31] [0,0,0,0,0,0,1,1,1] 3 O O<|.region<|.p O O<|.lb 0 6 O<|.n 2 O<|.AQ (fun _ w=>(w.sl [5] 0 O).CO)<|.bd h1 fun r5 JF h1=>.cr 14 [7,0,12] [] 0 (zDS JF) zYg O fun Vg c23=>.AQ (fun _ w=>w.CO)<|.bd h1 fun l1 hl1 h1=>.app (E:=uP) hl1 O O O (FX 9 O) O O O O O O O O (OB (.head _)) O O fun A24 c24=>.p O O<|.done<|.BF<|.AB<|.pf [0,1,2,3,11,29,30,31] [0,2,2,2,2,2] 4 O O<|.region ?_;cases h1;exact .be O<|.ag (VB,c18,SL,c19,VD,c20,YQ,c21,A24,c24) hm1 O (zl [0,4,3,1] 0 O)
   cases h1
  refine .xq O ?_;cases h1;cases hd1 _ rfl
  exact .AB<|.hE (A7,c7,A8,c8,A9,c9,MR,c10,OQ,c11) O (zl [0,0,0,0,0,0] 3 O)
 rintro ⟨WE,c12,MQ,c13,LD,c14,PK,c15,SK,c16⟩;refine .ab [8,9] O ?_;cases h;exact .rv O O ⟨WE,c12,MQ,c13,LD,c14,PK,c15,SK,c16,O,O⟩ (zk 6 3 [5,4] [5,2,1] 0 O)
theorem zVw:BV Tryz.prog 47:=en Tryz.func47 (by kernel_rfl)
def tX (BD:zA):Option Bool:=
 some BD.down
theorem iJ {BD A1 c1 A2 c2 BN r} (h:tX BD=some r):
    AX Tryz.prog 47 [.pointer (some ⟨BN,0,none⟩)] [.res (Box BN 112 (zJ BD A1 c1 A2 c2)), .res (zD AP 5 A1 c1 BD.bytes), .res (zD xA 3 A2 c2 BD.AY)] (fun v F=>v= .bool r∧F= [.res (Box BN 112 (zJ BD A1 c1 A2 c2)), .res (zD AP 5 A1 c1 BD.bytes), .res (zD xA 3 A2 c2 BD.AY)]):=by
 unfold tX at h
 refine AX.intro Tryz.func47 O O O fun w R=>?_;refine .ab [0] O<|.a 3 O<|.lb 6 0 O<|.b [2] O ?_;cases h;exact .rv O O ⟨O,O⟩ zw
theorem Vh:BV Tryz.prog 56:=en Tryz.func56 (by kernel_rfl)
def vY (BJ:xG) (CV:zA):Option (xG × Bool):=
 bnd ((bif BJ.ended then (some true) else (bnd (iZ BJ.d) fun bb1=>bnd (tX CV) fun r1=>some r1):Option Bool)) fun o1=>bif o1 then (some ((⟨false,0,0,false,0,0,0,0, [],false,0,false,true⟩:xG),true)) else (some (BJ,BJ.ended))
theorem nQ {BJ CV A1 c1 A2 c2 A3 c3 BN ES r} (h:vY BJ CV=some r):
    AX Tryz.prog 56 [.pointer (some ⟨BN,0,none⟩)] [.res (Box BN 124 (wR BJ ES A1 c1)), .res (zD xV 155 A1 c1 BJ.records), .res (Box ES 112 (zJ CV A2 c2 A3 c3)), .res (zD AP 5 A2 c2 CV.bytes), .res (zD xA 3 A3 c3 CV.AY)] (fun v F=>∃ A4 c4,v= .bool r.2∧F= [.res (Box BN 124 (wR r.1 ES A4 c4)), .res (zD xV 155 A4 c4 r.1.records), .res (Box ES 112 (zJ CV A2 c2 A3 c3)), .res (zD AP 5 A2 c2 CV.bytes), .res (zD xA 3 A3 c3 CV.AY)]):=by
 refine AX.intro Tryz.func56 O O O fun w R=>?_;refine .ab [0] O<|.seq<|.seq<|.bd h fun o1 hj1 h=>.cu 0 [0, .s 13 (.bool o1)] [] O O ?_ ?_
 ·refine .region<|.n 3 O<|.lb 12 0 O<|.p O O<|.gs 7 hj1 O (fun hj1=>?_) (fun hj1=>?_)
  ·cases hj1;exact .be O<|.hU O zw
  refine .n 3 O<|.BR O O<|.lb 0 0 O<|.BR O O<|.bd hj1 fun bb1 NW hj1=>?_;refine .ss 11 (rX NW)<|.bd hj1 fun r1 hr1 hj1=>.cq 5 [] [2,2,2] 0 (iJ hr1) zVw O ?_;cases hj1;exact .be O<|.hU O (zl [3,3] 0 O)
 refine .cb h O (fun h=>?_) (fun h=>?_)
 ·refine .region<|.n 3 O<|.sb 0 0 O<|.bf [0] [0] 1 O O<|.a 3 O<|.lb 12 0 O<|.b [2] O<|.AQ (fun _ w=>w.EH xV 155) ?_;cases h;exact .rv O O ⟨none,0,O,O⟩ (zl [1] 0 O)
 refine .sk<|.pr [0] O<|.a 3 O<|.lb 12 0 O<|.b [2] O ?_;cases h;exact .rv O O ⟨A1,c1,O,O⟩ zw
theorem zVq:BV Tryz.prog 95:=en Tryz.func95 (by kernel_rfl)
def vW (BD:zA):Option (zA × Bool):=
 bif decide (BD.left>0) then (some ((⟨BD.size,BD.bytes,BD.AY,wrap .i64 (BD.steps+1),wrap .i64 (BD.left - 1),BD.BU,((wrap .i64 (BD.left - 1))==0)⟩:zA),((wrap .i64 (BD.left - 1))==0))) else (some ((⟨BD.size,BD.bytes,BD.AY,wrap .i64 (BD.steps+1),BD.left,BD.BU,BD.down⟩:zA),BD.down))
theorem iS {BD A1 c1 A2 c2 BN r} (h:vW BD=some r):
    AX Tryz.prog 95 [.pointer (some ⟨BN,0,none⟩)] [.res (Box BN 112 (zJ BD A1 c1 A2 c2)), .res (zD AP 5 A1 c1 BD.bytes), .res (zD xA 3 A2 c2 BD.AY)] (fun v F=>∃ A3 c3 A4 c4,v= .bool r.2∧F= [.res (Box BN 112 (zJ r.1 A3 c3 A4 c4)), .res (zD AP 5 A3 c3 r.1.bytes), .res (zD xA 3 A4 c4 r.1.AY)]):=by
 refine AX.intro Tryz.func95 O O O fun w R=>?_;refine .ab [0] O<|.a 3 O<|.lb 3 0 O<|.n 3 O<|.sb 3 0 O<|.b [0] O<|.seq<|.a 3 O<|.lb 4 0 O<|.b [0,14] O<|.cb h O (fun h=>?_) (fun h=>?_)
 ·refine .a 3 O<|.lb 4 0 O<|.n 3 O<|.sb 4 0 O<|.b [0] O<|.region<|.n 4 O<|.lb 4 0 O<|.n 3 O<|.sb 6 0 O<|.b [0] O<|.a 3 O<|.lb 6 0 O<|.b [2] O ?_;cases h;exact .rv O O ⟨A1,c1,A2,c2,O,O⟩ zw
 refine .sk<|.pr [0] O<|.a 3 O<|.lb 6 0 O<|.b [2] O ?_;cases h;exact .rv O O ⟨A1,c1,A2,c2,O,O⟩ zw
theorem zVK:BV Tryz.prog 96:=en Tryz.func96 (by kernel_rfl)
def tD [AO] (BD:zA) (FT:Int):Option (zA × Int):=
 bif BD.down then (some (BD,10)) else (bnd ((bif decide (FT<0) then (some true) else (some (decide (FT≥(BD.AY.length:Int)))):Option Bool)) fun o1=>bif o1 then (some (BD,2)) else (bnd (AU BD.AY FT) fun x1=>bnd (xJ BD.AY FT (wrap .i64 (x1+1))) fun l1=>bnd (vW (⟨BD.size,BD.bytes,l1,BD.steps,BD.left,BD.BU,BD.down⟩:zA)) fun r1=>bnd ((bif r1.2 then (some r1.1.BU) else (some 255):Option Int)) fun o2=>bnd (jP r1.1.bytes.length (wrap .i64 (FT*r1.1.size)) (wrap .i64 ((wrap .i64 (FT+1))*r1.1.size))) fun n1=>bnd (zI (τ:=zA) (fun (s1:zA × Int)=>bif decide (s1.2<(n1:Int)) then (bnd (XC s1.1.bytes (Int.toNat (wrap .i64 (FT*r1.1.size))) n1 s1.2) fun x2=>bnd (XC s1.1.bytes (Int.toNat (wrap .i64 (FT*r1.1.size))) n1 s1.2) fun x3=>bnd (xJ s1.1.bytes (((Int.toNat (wrap .i64 (FT*r1.1.size)):Nat):Int)+s1.2) (CZ .u8 x2 o2)) fun l2=>some (.next ((⟨s1.1.size,l2,s1.1.AY,s1.1.steps,s1.1.left,s1.1.BU,s1.1.down⟩:zA),wrap .i64 (s1.2+1)))) else (some (.done s1.1))) (r1.1,0)) fun o3=>bif r1.2 then (some (o3,10)) else (some (o3,0))))
theorem jL [AO] {BD FT A1 c1 A2 c2 BN r} (h:tD BD FT=some r):
    AX Tryz.prog 96 [.pointer (some ⟨BN,0,none⟩), .int .i64 FT] [.res (Box BN 112 (zJ BD A1 c1 A2 c2)), .res (zD AP 5 A1 c1 BD.bytes), .res (zD xA 3 A2 c2 BD.AY)] (fun v F=>∃ A3 c3 A4 c4,v= .int .i64 r.2∧F= [.res (Box BN 112 (zJ r.1 A3 c3 A4 c4)), .res (zD AP 5 A3 c3 r.1.bytes), .res (zD xA 3 A4 c4 r.1.AY)]):=by
 refine AX.intro Tryz.func96 O O O fun w R=>?_;refine .ab [0,1] O<|.seq<|.block<|.a 3 O<|.lb 6 0 O<|.b [0,1,9] O<|.cb h O (fun h=>?_) (fun h=>?_)
 ·refine .ab [4] O ?_;cases h;exact .rv O O ⟨A1,c1,A2,c2,O,O⟩ zw
 refine .seq<|.bd h fun o1 hj1 h=>.cu 0 [0,1, .s 14 (.bool o1)] [] O O ?_ ?_
 ·refine .region<|.n 3 O<|.gs 17 hj1 O (fun hj1=>?_) (fun hj1=>?_)
  ·cases hj1;exact .be O<|.hU O zw
  refine .n 4 O<|.BR O O<|.lb 2 0 O ?_;cases hj1;exact .be O<|.hU O zw
 refine .cb h O (fun h=>?_) (fun h=>?_)
 ·refine .ab [4] O ?_;cases h;exact .rv O O ⟨A1,c1,A2,c2,O,O⟩ zw
 refine .skip<|.BF<|.AB<|.pr [0,1] O<|.a 3 O<|.lb 2 0 O<|.p O O<|.bd h fun x1 hx1 h=>.II hx1 2 O fun g1 hA=>?_;subst hA;refine .EZ 0 hx1 O O (zm 2 O) O O<|.p O O<|.II hx1 2 O fun g2 hA=>?_;cases hA;refine .bd h fun l1 hl1 h=>.IY 0 hx1 hl1 O O (FX 2 O) O O O O O ?_;refine .ss 29 (zF hl1)<|.AQ (F':=.res (zD xA 3 (some ⟨g1,0,none⟩) c2 l1):: .res (Box BN 112 [.int .i64 BD.size, .slice A1 BD.bytes.length c1, .slice (some ⟨g1,0,none⟩) l1.length c2, .int .i64 BD.steps, .int .i64 BD.left, .int .u8 BD.BU, .bool BD.down]):: .res (zD AP 5 A1 c1 BD.bytes)::R) (fun _ w=>by rw [fO hl1]; exact w)<|.b [0,1] O<|.a 1 O<|.bd h fun r1 hr1 h=>.ct 3 [] [1,1] 0 (iS hr1) zVq O fun A3 c3 A4 c4=>.b [0,1,5] O<|.ae O<|.seq<|.bd h fun o2 hj2 h=>.cu 0 [0,1,5, .s 6 (.int .u8 o2)] [] O O ?_ ?_
 ·refine .ae O<|.cb hj2 O (fun hj2=>?_) (fun hj2=>?_)
  ·refine .region<|.n 3 O<|.lb 5 0 O ?_;cases hj2;exact .be O<|.hU O zw
  cases hj2;exact .sk<|.hU O zw
 refine .seq<|.regionF mixed (by kernel_rfl)<|.n 3 O<|.lb 1 0 O<|.n 4 O<|.lb 0 0 O<|.n 6 O<|.lb 0 0 O<|.p O O<|.bd h fun n1 hn1 h=>.part (E:=AP) hn1 O O EI O O O O O O O<|.bq [5,6,7] O<|.seq<|.ab [5,6,7,61,62] O<|.bd h fun o3 hl1 h=>.DZ 3 (fun (e4:Option Addr × Nat × Option Addr × Nat)=>[5]) (fun e4=>[.res (zD xA 3 e4.2.2.1 e4.2.2.2 o3.AY), .res (zD AP 5 e4.1 e4.2.1 o3.bytes), .res (Box BN 112 (zJ o3 e4.1 e4.2.1 e4.2.2.1 e4.2.2.2))]) O O ?_ ?_
 ·refine .block<|.BH hl1 3 (fun (s1:zA × Int) (e3:Option Addr × Nat × Option Addr × Nat)=>[5,6, .s 7 (.slice (YH e3.1 e3.2.1 (Int.toNat (wrap .i64 (FT*r1.1.size))) 1) n1 (e3.2.1 - (Int.toNat (wrap .i64 (FT*r1.1.size))))),61, .s 62 (.int .i64 s1.2)]) (fun s1 e3=>[.res (zD xA 3 e3.2.2.1 e3.2.2.2 s1.1.AY), .res (zD AP 5 e3.1 e3.2.1 s1.1.bytes), .res (Box BN 112 (zJ s1.1 e3.1 e3.2.1 e3.2.2.1 e3.2.2.2))]) O O (A3,c3,A4,c4) (zb O) (zl [2,1] 0 O) ?_;rintro s1 ⟨A5,c5,A6,c6⟩ st1 hm1 hd1 h1;refine .ae O<|.seq<|.cb h1 O (fun h1=>?_) (fun h1=>?_)
  ·refine .sk<|.pr [5,6,7,61,62] O<|.seq<|.block<|.ab [5,6,7,8,61,62] O<|.region<|.n 2 O<|.bd h1 fun x2 hx2 h1=>.Ac (E:=AP) Aa hx2 O O O EI O O O O fun g3 hA=>?_;subst hA;refine .EZ 0 (Ri hx2) O O EI O O<|.n 2 O<|.bd h1 fun x3 hx3 h1=>.Ac (E:=AP) Aa hx3 O O O EI O O O O fun g4 hA=>?_;cases hA;refine .bd h1 fun l2 hl2 h1=>.IY 0 (Ri hx3) hl2 O O (.s .z) O O O O O<|.AQ (F':=.res (zD AP 5 (some ⟨g3,0,none⟩) c5 l2):: .res (zD xA 3 A6 c6 s1.1.AY):: .res (Box BN 112 [.int .i64 s1.1.size, .slice (some ⟨g3,0,none⟩) l2.length c5, .slice A6 s1.1.AY.length c6, .int .i64 s1.1.steps, .int .i64 s1.1.left, .int .u8 s1.1.BU, .bool s1.1.down])::R) (fun _ w=>by rw [fO hl2]; exact w)<|.done<|.BF<|.AB<|.pr [5,6,7,61,62] O<|.region ?_;cases h1;exact .be O<|.ag ((some ⟨g3,0,none⟩),c5,A6,c6) hm1 O (zl [1] 0 O)
  refine .xq O ?_;cases h1;cases hd1 _ rfl
  exact .AB<|.hE (A5,c5,A6,c6) O zw
 rintro ⟨A7,c7,A8,c8⟩;refine .seq<|.ab [73] O<|.cb h O (fun h=>?_) (fun h=>?_)
 ·refine .ab [4] O ?_;cases h;exact .rv O O ⟨A7,c7,A8,c8,O,O⟩ (zl [2,1] 0 O)
 refine .sk<|.pr [] O<|.ae O ?_;cases h;exact .rv O O ⟨A7,c7,A8,c8,O,O⟩ (zl [2,1] 0 O)
theorem Jk:BV Tryz.prog 131:=en Tryz.func131 (by kernel_rfl)
def oH (EM:Int):Option (List Int):=
 some ([wrap .u8 EM,wrap .u8 (xP .i64 EM 8),wrap .u8 (xP .i64 EM 16),wrap .u8 (xP .i64 EM 24)])
theorem pZ {EM r} (h:oH EM=some r):
    AX Tryz.prog 131 [.int .i64 EM] [] (fun v F=>∃ A1 c1,v= .slice A1 r.length c1∧F= [.res (zD AP 5 A1 c1 r)]):=by
 unfold oH at h
 refine AX.intro Tryz.func131 O O O fun w R=>?_;refine .ab [0] O<|.a 11 O<|.bS O fun g1=>.b [2] O<|.AQ (fun _ w=>w.IB (E:=AP) (e:=5) [wrap .u8 EM,wrap .u8 (xP .i64 EM 8),wrap .u8 (xP .i64 EM 16),wrap .u8 (xP .i64 EM 24)] O O) ?_;cases h;exact .rv O O ⟨(some ⟨g1,0,none⟩),([wrap .u8 EM,wrap .u8 (xP .i64 EM 8),wrap .u8 (xP .i64 EM 16),wrap .u8 (xP .i64 EM 24)]:List Int).length,O,O⟩ zw
theorem ig:BV Tryz.prog 51:=en Tryz.func51 (by kernel_rfl)
def yJ [AO] (BD:zA) (DY:Int) (BO:(List Int)):Option (zA × Int):=
 bif BD.down then (some (BD,10)) else (bnd (uV BD DY (BO.length:Int)) fun r1=>bif !r1 then (some (BD,2)) else (bnd (zI (τ:=(zA × Int) ⊕ zA) (fun (s1:zA × Int)=>bif decide (s1.2<(BO.length:Int)) then (bnd (AU BO s1.2) fun x1=>bnd (vW s1.1) fun r2=>bif r2.2 then (bnd (AU r2.1.bytes (wrap .i64 (DY+s1.2))) fun x2=>bnd (AU r2.1.bytes (wrap .i64 (DY+s1.2))) fun x3=>bnd (AU r2.1.bytes (wrap .i64 (DY+s1.2))) fun x4=>bnd (xJ r2.1.bytes (wrap .i64 (DY+s1.2)) (vL .u8 x3 (CZ .u8 x1 r2.1.BU))) fun l1=>some (.done (.inl ((⟨r2.1.size,l1,r2.1.AY,r2.1.steps,r2.1.left,r2.1.BU,r2.1.down⟩:zA),10)))) else (bnd (AU r2.1.bytes (wrap .i64 (DY+s1.2))) fun x5=>bnd (xJ r2.1.bytes (wrap .i64 (DY+s1.2)) (vL .u8 x5 x1)) fun l2=>some (.next ((⟨r2.1.size,l2,r2.1.AY,r2.1.steps,r2.1.left,r2.1.BU,r2.1.down⟩:zA),wrap .i64 (s1.2+1))))) else (some (.done (.inr s1.1)))) (BD,0)) fun o1=>wN o1 fun o2=>some (o2,0)))
theorem wV [AO] {BD DY BO A1 c1 A2 c2 A3 c3 BN r} (h:yJ BD DY BO=some r):
    AX Tryz.prog 51 [.pointer (some ⟨BN,0,none⟩), .int .i64 DY, .slice A3 BO.length c3] [.ro (BP AP A3 c3 BO), .res (Box BN 112 (zJ BD A1 c1 A2 c2)), .res (zD AP 5 A1 c1 BD.bytes), .res (zD xA 3 A2 c2 BD.AY)] (fun v F=>∃ A4 c4 A5 c5,v= .int .i64 r.2∧F= [.res (Box BN 112 (zJ r.1 A4 c4 A5 c5)), .res (zD AP 5 A4 c4 r.1.bytes), .res (zD xA 3 A5 c5 r.1.AY)]):=by
 refine AX.intro Tryz.func51 O O O fun w R=>?_;refine .ab [0,1,2] O<|.seq<|.block<|.a 3 O<|.lb 6 1 O<|.b [0,1,2,9] O<|.cb h O (fun h=>?_) (fun h=>?_)
 ·refine .EQ [6] [] 1 O O ?_;cases h;exact .rv O O ⟨A1,c1,A2,c2,O,O⟩ zw
 refine .a 4 O<|.bd h fun r1 hr1 h=>.cq 4 [] [1,1,1] 0 (kM hr1) zVu O<|.b [0,1,2,14] O<|.cb h O (fun h=>?_) (fun h=>?_)
 ·refine .EQ [6] [0,0,0] 1 O O ?_;cases h;exact .rv O O ⟨A1,c1,A2,c2,O,O⟩ zw
 refine .skip<|.BF<|.AB<|.pr [0,1,2] O<|.seq<|.ab [0,1,21,22,23] O<|.bd h fun o1 hl1 h=>.EJ 4 (fun (o2:zA) (e2:Option Addr × Nat × Option Addr × Nat)=>[]) (fun o2 e2=>[.res (zD xA 3 e2.2.2.1 e2.2.2.2 o2.AY), .res (zD AP 5 e2.1 e2.2.1 o2.bytes), .res (Box BN 112 (zJ o2 e2.1 e2.2.1 e2.2.2.1 e2.2.2.2))]) O O (fun o2=>o1= .inr o2) ?_ ?_
 ·refine .block<|.BH hl1 3 (fun (s1:zA × Int) (e1:Option Addr × Nat × Option Addr × Nat)=>[0,1,21,22, .s 23 (.int .i64 s1.2)]) (fun s1 e1=>[.res (zD xA 3 e1.2.2.1 e1.2.2.2 s1.1.AY), .res (zD AP 5 e1.1 e1.2.1 s1.1.bytes), .res (Box BN 112 (zJ s1.1 e1.1 e1.2.1 e1.2.2.1 e1.2.2.2))]) O O (A1,c1,A2,c2) (zb O) (zl [2,1] 0 O) ?_;rintro s1 ⟨A4,c4,A5,c5⟩ st1 hm1 hd1 h1;refine .ae O<|.seq<|.cb h1 O (fun h1=>?_) (fun h1=>?_)
  ·refine .sk<|.pr [0,1,21,22,23] O<|.seq<|.block<|.a 1 O<|.bd h1 fun x1 hx1 h1=>.FB hx1 3 O fun b1 ED=>.ld ED 0 0 O<|.bf [0,1,7,8,21,22,23] [] 1 O O<|.seq<|.a 1 O<|.bd h1 fun r2 hr2 h1=>.ct 4 [] [2,1] 0 (iS hr2) zVq O fun A8 c8 A9 c9=>.b [0,1,7,8,21,22,23,29] O<|.cb h1 O (fun h1=>?_) (fun h1=>?_)
   ·refine .seq<|.bd h1 fun x2 hx2 h1=>.JU EI hx2 fun g1 hA=>?_;subst hA;refine .BG (iN [0,4,8,13,16,20,24,29,33,36,40,44,48,53,56,60,65,71] .nil) _ mixed (by kernel_rfl) (zl [] 2 O)<|.yn 3 O<|.yx 1 0 O<|.yn 3 O<|.bd h1 fun x3 hx3 h1=>.DR (Rd.FO (E:=AP) hx3 O O O O O O O) O<|.DR (Rd.EZ 0 hx3 O EI O O) O<|.yn 4 O<|.yx 5 0 O<|.yn 2 O<|.bd h1 fun x4 hx4 h1=>.DR (Rd.FO (E:=AP) hx4 O O O O O O O) O<|.BZ<|.bd h1 fun l1 hl1 h1=>.IY 0 hx4 hl1 O O (.s .z) O O O O O ?_;refine .ss 33 (zF hl1)<|.AQ (F':=.res (zD AP 5 (some ⟨g1,0,none⟩) c8 l1):: .res (Box BN 112 [.int .i64 r2.1.size, .slice (some ⟨g1,0,none⟩) l1.length c8, .slice A9 r2.1.AY.length c9, .int .i64 r2.1.steps, .int .i64 r2.1.left, .int .u8 r2.1.BU, .bool r2.1.down]):: .res (zD xA 3 A9 c9 r2.1.AY):: .ro (BP AP A3 c3 BO)::R) (fun _ w=>by rw [fO hl1]; exact w)<|.xk (zl [] 2 O)<|.BX<|.AB<|.pf [] [0,0,0] 1 O O<|.ae O ?_;cases h1;cases hd1 _ rfl
    have h:some _=some _:=h;cases h;exact .rv O O ⟨(some ⟨g1,0,none⟩),c8,A9,c9,O,O⟩ (zl [1] 0 O)
   refine .sk<|.pr [0,1,7,8,21,22,23] O<|.region<|.n 3 O<|.lb 1 0 O<|.n 3 O<|.bd h1 fun x5 hx5 h1=>.II hx5 1 O fun g4 hA=>?_;subst hA;refine .EZ 0 hx5 O O EI O O<|.n 2 O<|.II hx5 1 O fun g5 hA=>?_;cases hA;refine .bd h1 fun l2 hl2 h1=>.IY 0 hx5 hl2 O O (.s .z) O O O O O ?_;refine .ss 50 (zF hl2)<|.AQ (F':=.res (zD AP 5 (some ⟨g4,0,none⟩) c8 l2):: .res (Box BN 112 [.int .i64 r2.1.size, .slice (some ⟨g4,0,none⟩) l2.length c8, .slice A9 r2.1.AY.length c9, .int .i64 r2.1.steps, .int .i64 r2.1.left, .int .u8 r2.1.BU, .bool r2.1.down]):: .res (zD xA 3 A9 c9 r2.1.AY):: .ro (BP AP A3 c3 BO)::R) (fun _ w=>by rw [fO hl2]; exact w)<|.done<|.BF<|.AB<|.pr [0,1,21,22,23] O<|.region ?_;cases h1;exact .be O<|.ag ((some ⟨g4,0,none⟩),c8,A9,c9) hm1 O (zl [2] 0 O)
  refine .xq O ?_;cases h1;cases hd1 _ rfl
  exact .AB<|.DN s1.1 (A4,c4,A5,c5) O trivial (zl [0,0,0] 1 O)
 rintro o2 ⟨A6,c6,A7,c7⟩ ho;subst ho;have h:=IV h;refine .ae O ?_;cases h;exact .rv O O ⟨A6,c6,A7,c7,O,O⟩ (zl [2,1] 0 O)
theorem zSw:BV Tryz.prog 101:=en Tryz.func101 (by kernel_rfl)
def qN [AO] (BJ:xG) (tail:Int) (CV:zA):Option (xG × zA × Int):=
 bif decide ((wrap .i64 (BJ.newest+1))>2147483648) then (some (BJ,CV,3)) else (bnd (TV (wrap .i64 ((wrap .i64 (BJ.newest+1)) - 1)) BJ.BL) fun q1=>bnd (iZ BJ.d) fun bb1=>bnd (zK CV) fun r1=>bnd (iZ BJ.d) fun bb2=>bnd (zK CV) fun r2=>bnd (xU CV (wrap .i64 ((wrap .i64 (BJ.first+q1))*r1)) r2) fun r3=>bnd ((bnd ((bif (r3.2.2==0) then (bnd (nH r3.2.1) fun r4=>some (!r4)) else (some false):Option Bool)) fun o2=>bif o2 then (bnd (iZ BJ.d) fun bb3=>bnd (tD r3.1 (wrap .i64 (BJ.first+q1))) fun r5=>some (r5.2,r5.1)) else (some (r3.2.2,r3.1)):Option (Int × zA))) fun o1=>bnd ((bif (o1.1==0) then (bnd (oH (wrap .i64 (BJ.newest+1))) fun r6=>bnd (oH tail) fun r7=>bnd (app 1 r6 r7) fun l1=>bnd (app 1 l1 [wrap .u8 BJ.next,wrap .u8 (xP .u16 BJ.next 8)]) fun l2=>bnd (iZ BJ.d) fun Vj=>bnd (yJ o1.2 (wrap .i64 ((wrap .i64 (BJ.first+q1))*r1)) l2) fun r8=>some (r8.2,r8.1)) else (some (o1.1,o1.2)):Option (Int × zA))) fun o3=>bnd ((bif (o3.1==0) then (bnd (iZ BJ.d) fun Vk=>bnd (yJ o3.2 (wrap .i64 ((wrap .i64 ((wrap .i64 (BJ.first+q1))*r1))+10)) ([0])) fun r9=>some (r9.2,r9.1)) else (some (o3.1,o3.2)):Option (Int × zA))) fun o4=>bif (o4.1==0) then (bnd (bN BJ.records) fun r10=>bnd (yV BJ.records.length r10) fun l3=>some ((⟨BJ.d,BJ.first,BJ.BL,BJ.overwrite,wrap .i64 (BJ.newest+1),tail,0,BJ.next,r10,BJ.full,BJ.number,BJ.held,BJ.ended⟩:xG),o4.2,o4.1)) else (some (BJ,o4.2,o4.1)))
end Go.Proofs.YtccooahdinmfmaaGreatDoor
end
