/-
  Texts of this seat, put together: rules, walks, plain laws.
  Conditions: none.
-/
import Derived.Test.YtplchdlgdjcojaaGreatDoorPW3
section
namespace Go.Proofs.YtplchdlgdjcojaaGreatDoor
open Go
set_option linter.unusedVariables false
set_option maxHeartbeats 4000000
set_option maxRecDepth 4000
theorem zAw {b_p0 A1 c1 A2 c2 r} (h:oR b_p0=some r):
    Fun Tryz.prog 76 [.agg #[.slice A1 b_p0.Images.length c1, .slice A2 b_p0.Needs.length c2]] [.ro (Sl (yL xC) A1 c1 b_p0.Images), .ro (SlL zR A2 c2 b_p0.Needs)] (Val (.int .i64 r)):=by
 refine Fun.intro Tryz.func76 rfl rfl rfl fun w R=>?_;refine .seq<|.region<|.box rfl rfl fun g1=>.b [1] rfl<|.seq<|.seq<|.bd h fun o1 hj1 h=>.cu 0 [1, .s 16 (.bool o1)] [] rfl rfl ?_ ?_
 ·refine .region<|.p rfl rfl<|.lb 0 0 rfl<|.n 3 rfl<|.gs 11 hj1 rfl (fun hj1=>?_) (fun hj1=>?_)
  ·cases hj1;exact .be rfl<|.hU rfl zw
  refine .n 1 rfl<|.gOn rfl rfl<|.lb 0 0 rfl ?_;cases hj1;exact .be rfl<|.hU rfl zw
 refine .cb h rfl (fun h=>?_) (fun h=>?_)
 ·refine .abf [2] [] 3 rfl rfl ?_;cases h;exact .rv rfl rfl ⟨rfl,rfl⟩ zw
 refine .sk<|.pr [1] rfl<|.seq<|.a 1 rfl<|.lb 0 0 rfl<|.b [1,18,19,20] rfl<|.bd h fun o2 hl1 h=>.cutJ 0 (fun (o3:Unit) (e3:Unit)=>[1]) (fun o3 e3=>[]) rfl rfl (fun o3=>o2= .inr o3) ?_ ?_
 ·refine .block<|.loopQ hl1 0 (fun (s1:Int) (e2:Unit)=>[1,18,19, .s 20 (.int .i64 s1)]) (fun s1 e2=>[]) rfl rfl () (zb rfl) (fun _ w=>w) ?_;rintro s1 e2 st1 hm1 hd1 h1;refine .ae rfl<|.seq<|.cb h1 rfl (fun h1=>?_) (fun h1=>?_)
  ·refine .sk<|.pr [1,18,19,20] rfl<|.seq<|.block<|.a 1 rfl<|.bd h1 fun x1 hx1 h1=>.ix3 hx1 1 rfl fun b1 ob1 ex1=>?_;obtain ⟨⟨A3,c3⟩,_⟩:=ex1;refine .nm 5 rfl<|.ld ob1 0 0 rfl<|.alloc rfl rfl fun g2=>.p rfl rfl<|.sb 0 0 rfl<|.bf [1,3,4,18,19,20] [0] 1 rfl rfl<|.seq<|.seq<|.region<|.lb 0 0 rfl<|.bd h1 fun r1 hr1 h1=>.cv [1] (oW hr1) zKY rfl<|.b [1,3,4,18,19,20,27] rfl<|.cb h1 rfl (fun h1=>?_) (fun h1=>?_)
   ·refine .abf [2] [] 5 rfl rfl ?_;cases h1;cases hd1 _ rfl
    have h:some _=some _:=h;cases h;exact .rv rfl rfl ⟨rfl,rfl⟩ zw
   refine .sk<|.pr [1,3,4,18,19,20] rfl<|.seq<|.bd h1 fun o4 hj2 h1=>.cu 2 [1,18,19,20, .s 41 (.bool o4)] [] rfl rfl ?_ ?_
   ·refine .regionF mixed (by kernel_rfl)<|.n 3 rfl<|.gs 30 hj2 rfl (fun hj2=>?_) (fun hj2=>?_)
    ·refine .n 1 rfl<|.gOn rfl rfl<|.lb 0 0 rfl<|.n 1 rfl<|.gOn rfl rfl<|.lb 0 2 rfl<|.n 2 rfl<|.gOn rfl rfl<|.bd hj2 fun x2 hx2 hj2=>.ix3 hx2 3 rfl fun b2 ob2 ex2=>?_;obtain ⟨⟨A4,c4⟩,_⟩:=ex2;refine .nm 7 rfl<|.n 1 rfl<|.gOn rfl rfl<|.ld ob2 0 0 rfl ?_;cases hj2;exact .beq rfl<|.hU rfl (zl [] 4 rfl)
    cases hj2;exact .beq rfl<|.hU rfl (zl [] 2 rfl)
   refine .cb h1 rfl (fun h1=>?_) (fun h1=>?_)
   ·refine .abf [2] [] 3 rfl rfl ?_;cases h1;cases hd1 _ rfl
    have h:some _=some _:=h;cases h;exact .rv rfl rfl ⟨rfl,rfl⟩ zw
   refine .skip<|.blkN<|.thenN<|.pr [1,18,19,20] rfl<|.region ?_;cases h1;exact .be rfl<|.ag () hm1 rfl zw
  refine .xq rfl ?_;cases h1;cases hd1 _ rfl
  exact .thenN<|.hereI () () rfl (zb rfl) zw
 rintro o3 e3 ho;subst ho;have h:=unR h;refine .seq<|.a 1 rfl<|.lb 1 0 rfl<|.b [1,46] rfl<|.cb h rfl (fun h=>?_) (fun h=>?_)
 ·refine .abf [2] [] 3 rfl rfl ?_;cases h;exact .rv rfl rfl ⟨rfl,rfl⟩ zw
 refine .sk<|.pr [1] rfl<|.seq<|.a 1 rfl<|.lb 1 0 rfl<|.asrt (fun _ w=>w.nilSl (cod zJ))<|.bd h fun r2 hr2 h=>.cv [0,3] (uN hr2) zDV rfl<|.bf [6] [] 4 rfl rfl<|.ab [54] rfl<|.cb h rfl (fun h=>?_) (fun h=>?_)
 ·refine .ab [2] rfl ?_;cases h;exact .rv rfl rfl ⟨rfl,rfl⟩ zw
 refine .sk<|.pr [] rfl<|.ae rfl ?_;cases h;exact .rv rfl rfl ⟨rfl,rfl⟩ zw
theorem zSv:Ent Tryz.prog 131:=en Tryz.func131 (by kernel_rfl)
noncomputable def mF (b_p0:(List Int)) (n_p1:Int):Option (List Int):=
 bnd (app 1 b_p0 [IntKind.wrap .u8 (uD .u32 n_p1 24),IntKind.wrap .u8 (uD .u32 n_p1 16),IntKind.wrap .u8 (uD .u32 n_p1 8),IntKind.wrap .u8 n_p1]) fun l1=>some l1
theorem zAZ {b_p0 n_p1 A1 c1 r} (h:mF b_p0 n_p1=some r):
    Fun Tryz.prog 131 [.slice A1 b_p0.length c1, .int .u32 n_p1] [.res (zM eu8 5 A1 c1 b_p0)] (fun v F=>∃ A2 c2,v= .slice A2 r.length c2∧F= [.res (zM eu8 5 A2 c2 r)]):=by
 refine Fun.intro Tryz.func131 rfl rfl rfl fun w R=>?_;refine .ab [0,1] rfl<|.a 12 rfl<|.bS rfl fun g1=>.bd h fun l1 hl1 h=>.app (E:=eu8) hl1 rfl rfl rfl (.s .z) rfl rfl rfl rfl rfl rfl rfl rfl (eO (.head _) rfl rfl) rfl rfl fun A2 c2=>.bf [4] [0] 1 rfl rfl ?_;cases h;exact .rv rfl rfl ⟨A2,c2,rfl,rfl⟩ zw
theorem zVd:Ent Tryz.prog 54:=en Tryz.func54 (by kernel_rfl)
noncomputable def tU (b_p0:zX):Option ((List Int) × Int):=
 bnd (oR b_p0) fun r1=>bif (r1 != 0) then (some ([],r1)) else (bnd (app 1 ([66,77,67,70]) [IntKind.wrap .u8 (b_p0.Images.length:Int)]) fun l1=>bnd (yG (τ:=List Int) (fun (s1:List Int × Int)=>bif decide (s1.2<(b_p0.Images.length:Int)) then (bnd (elt b_p0.Images s1.2) fun x1=>bnd (qI x1) fun r2=>bnd (app 1 s1.1 r2) fun l2=>bnd (sD x1) fun r3=>bnd (mF l2 r3) fun r4=>some (.next (r4,IntKind.wrap .i64 (s1.2+1)))) else (some (.done s1.1))) (l1,0)) fun o1=>bnd (app 1 o1 [IntKind.wrap .u8 (b_p0.Needs.length:Int)]) fun l3=>bnd (yG (τ:=List Int) (fun (s2:List Int × Int)=>bif decide (s2.2<(b_p0.Needs.length:Int)) then (bnd (elt b_p0.Needs s2.2) fun x2=>bnd (rV s2.1 x2.Component) fun r5=>bnd (vW r5 x2.From) fun r6=>bnd (rV r6 x2.On) fun r7=>bnd (vW r7 x2.At) fun r8=>some (.next (r8,IntKind.wrap .i64 (s2.2+1)))) else (some (.done s2.1))) (l3,0)) fun o2=>bnd (wE o2) fun r9=>bnd (mF o2 r9) fun r10=>bif decide ((r10.length:Int)>8192) then (some ([],3)) else (some (r10,0)))
theorem bN {b_p0 A1 c1 A2 c2 r} (h:tU b_p0=some r):
    Fun Tryz.prog 54 [.agg #[.slice A1 b_p0.Images.length c1, .slice A2 b_p0.Needs.length c2]] [.ro (Sl (yL xC) A1 c1 b_p0.Images), .ro (SlL zR A2 c2 b_p0.Needs)] (fun v F=>∃ A3 c3,v= .tuple #[.slice A3 r.1.length c3, .int .i64 r.2]∧F= [.res (zM eu8 5 A3 c3 r.1)]):=by
 refine Fun.intro Tryz.func54 rfl rfl rfl fun w R=>?_;refine .seq<|.region<|.box rfl rfl fun g1=>.b [1] rfl<|.seq<|.seq<|.region<|.lb 0 0 rfl<|.bd h fun r1 hr1 h=>.cv [1,2] (zAw hr1) zUP rfl<|.b [1,4] rfl<|.ab [1,4,13] rfl<|.cb h rfl (fun h=>?_) (fun h=>?_)
 ·refine .abf [2,3] [] 3 rfl rfl<|.asrt (fun _ w=>w.nilL eu8 5) ?_;cases h;exact .rv rfl rfl ⟨none,0,rfl,rfl⟩ zw
 refine .sk<|.pr [1] rfl<|.seq<|.region<|.buildSlice0 rfl rfl rfl rfl rfl rfl rfl rfl fun g2=>.markB rfl rfl rfl rfl rfl rfl<|.p rfl rfl<|.lb 0 1 rfl<|.n 2 rfl<|.bS rfl fun g3=>.asrt (fun _ w=>(w.sl [1] 0 rfl).litL (E:=eu8) (e:=5) [66,77,67,70] rfl rfl)<|.bd h fun l1 hl1 h=>.app (E:=eu8) hl1 rfl rfl rfl .z rfl rfl rfl rfl rfl rfl rfl rfl (eO (.tail _ (.head _)) rfl rfl) rfl rfl fun A3 c3=>.bf [1,5] [0] 1 rfl rfl<|.seq<|.a 1 rfl<|.lb 0 1 rfl<|.b [1,5,24,25,26] rfl<|.bd h fun o1 hl1 h=>.cutK 1 (fun (e2:Option Addr × Nat)=>[1, .s 5 (.slice e2.1 o1.length e2.2)]) (fun e2=>[.res (zM eu8 5 e2.1 e2.2 o1)]) rfl rfl ?_ ?_
 ·refine .block<|.loopQ hl1 1 (fun (s1:List Int × Int) (e1:Option Addr × Nat)=>[1, .s 5 (.slice e1.1 s1.1.length e1.2),24,25, .s 26 (.int .i64 s1.2)]) (fun s1 e1=>[.res (zM eu8 5 e1.1 e1.2 s1.1)]) rfl rfl (A3,c3) (zb rfl) (fun _ w=>w) ?_;rintro s1 ⟨A4,c4⟩ st1 hm1 hd1 h1;refine .ae rfl<|.seq<|.cb h1 rfl (fun h1=>?_) (fun h1=>?_)
  ·refine .sk<|.pr [1,5,24,25,26] rfl<|.seq<|.block<|.seq<|.region<|.bd h1 fun x1 hx1 h1=>.ix3 hx1 2 rfl fun b1 ob1 ex1=>?_;obtain ⟨⟨A6,c6⟩,_⟩:=ex1;refine .nm 6 rfl<|.ld ob1 0 0 rfl<|.alloc rfl rfl fun g4=>.sb 0 0 rfl<|.bf [1,5,7,24,25,26] [0] 1 rfl rfl<|.regionX (iN [0,5,16,11,15,22,27,28] .nil) _ mixed (by kernel_rfl) (zl [0,0] 1 rfl)<|.yn 1 rfl<|.yx 0 0 rfl<|.yl 0 0 rfl<|.xef<|.bd h1 fun r2 hr2 h1=>.cr 7 [1] [] 0 (aZ hr2) zUV rfl fun A7 c7=>.xk (zl [1,1] 2 rfl)<|.xef<|.asrt (fun _ w=>w.meltL)<|.bd h1 fun l2 hl2 h1=>.app (E:=eu8) hl2 rfl rfl rfl (.s (.s (.s .z))) rfl rfl rfl rfl rfl rfl rfl rfl (fB (.head _)) rfl rfl fun A8 c8=>.xk (zl [] 2 rfl)<|.bd h1 fun r3 hr3 h1=>.xqc (fun _ h=>h) (kL hr3) zLO rfl rfl rfl rfl (za [1] rfl)<|.xef<|.bd h1 fun r4 hr4 h1=>.cr 7 [] [] 0 (zAZ hr4) zSv rfl fun A9 c9=>.xk (zl [] 2 rfl)<|.yn 1 rfl<|.xdone<|.blkN<|.thenN<|.pf [1,5,24,25,26] [0] 3 rfl rfl<|.region ?_;cases h1;exact .be rfl<|.ag (A9,c9) hm1 rfl zw
  refine .xq rfl ?_;cases h1;cases hd1 _ rfl
  exact .thenN<|.hE (A4,c4) rfl zw
 rintro ⟨A5,c5⟩;refine .a 2 rfl<|.lb 1 1 rfl<|.n 2 rfl<|.bS rfl fun g5=>.bd h fun l3 hl3 h=>.app (E:=eu8) hl3 rfl rfl rfl (.s .z) rfl rfl rfl rfl rfl rfl rfl rfl (eO (.head _) rfl rfl) rfl rfl fun A10 c10=>.bf [1,5] [0] 1 rfl rfl<|.seq<|.a 1 rfl<|.lb 1 1 rfl<|.bf [5,46,47,48] [0] 2 rfl rfl<|.bd h fun o2 hl2 h=>.cutK 2 (fun (e4:Option Addr × Nat)=>[.s 5 (.slice e4.1 o2.length e4.2)]) (fun e4=>[.res (zM eu8 5 e4.1 e4.2 o2)]) rfl rfl ?_ ?_
 ·refine .block<|.loopQ hl2 1 (fun (s2:List Int × Int) (e3:Option Addr × Nat)=>[.s 5 (.slice e3.1 s2.1.length e3.2),46,47, .s 48 (.int .i64 s2.2)]) (fun s2 e3=>[.res (zM eu8 5 e3.1 e3.2 s2.1)]) rfl rfl (A10,c10) (zb rfl) (fun _ w=>w) ?_;rintro s2 ⟨A11,c11⟩ st2 hm2 hd2 h2;refine .ae rfl<|.seq<|.cb h2 rfl (fun h2=>?_) (fun h2=>?_)
  ·refine .sk<|.pr [5,46,47,48] rfl<|.seq<|.block<|.seq<|.region<|.bd h2 fun x2 hx2 h2=>.ix1 hx2 1 rfl fun b2 ob2=>.ld ob2 0 0 rfl<|.alloc rfl rfl fun g6=>.sb 0 0 rfl<|.bf [5,9,46,47,48] [0] 1 rfl rfl<|.seq<|.regionX (iN [0,4,9,16,20,15,27,28] .nil) _ mixed (by kernel_rfl) (zl [0] 1 rfl)<|.yn 2 rfl<|.yx 0 0 rfl<|.yn 1 rfl<|.yl 1 0 rfl<|.xef<|.bd h2 fun r5 hr5 h2=>.cr 3 [] [1] 0 (eP hr5) zNs rfl fun A13 c13=>.xk (zl [] 1 rfl)<|.xef<|.bd h2 fun r6 hr6 h2=>.cr 3 [] [] 0 (jC hr6) zMk rfl fun A14 c14=>.xk (zl [] 1 rfl)<|.yn 1 rfl<|.xdone<|.thenN<|.pr [5,9,46,47,48] rfl<|.regionX (iN [0,4,9,16,20,15,27,28] .nil) _ mixed (by kernel_rfl) (zl [] 1 rfl)<|.yn 2 rfl<|.yx 4 1 rfl<|.yn 1 rfl<|.yl 5 0 rfl<|.xef<|.bd h2 fun r7 hr7 h2=>.cr 3 [] [] 0 (eP hr7) zNs rfl fun A15 c15=>.xk (zl [] 1 rfl)<|.xef<|.bd h2 fun r8 hr8 h2=>.cr 3 [] [] 0 (jC hr8) zMk rfl fun A16 c16=>.xk (zl [] 1 rfl)<|.yn 1 rfl<|.xdone<|.blkN<|.thenN<|.pf [5,46,47,48] [0] 1 rfl rfl<|.region ?_;cases h2;exact .be rfl<|.ag (A16,c16) hm2 rfl zw
  refine .xq rfl ?_;cases h2;cases hd2 _ rfl
  exact .thenN<|.hE (A11,c11) rfl (zl [0] 1 rfl)
 rintro ⟨A12,c12⟩;refine .a 2 rfl<|.bd h fun r9 hr9 h=>.callL (nB hr9) zOm rfl rfl rfl rfl (gX.own (.head _) gX.nil) (fun _ _ h=>by rw [h.2]; exact True.intro) ?_;rintro _ _ ⟨rfl,rfl⟩;refine .nm 1 rfl<|.bd h fun r10 hr10 h=>.cr 1 [] [] 0 (zAZ hr10) zSv rfl fun A17 c17=>.b [5] rfl<|.seq<|.ab [5,73] rfl<|.cb h rfl (fun h=>?_) (fun h=>?_)
 ·refine .abf [2,3] [] 1 rfl rfl<|.asrt (fun _ w=>w.nilL eu8 5) ?_;cases h;exact .rv rfl rfl ⟨none,0,rfl,rfl⟩ zw
 refine .sk<|.pr [5] rfl<|.ab [2,3] rfl ?_;cases h;exact .rv rfl rfl ⟨A17,c17,rfl,rfl⟩ zw
theorem zSV:Ent Tryz.prog 121:=en Tryz.func121 (by kernel_rfl)
noncomputable def vY (size:Int) (part:Int):Option Bool:=
 bnd ((bif decide (size≥1) then (bif decide (size≤8192) then (bif decide (part≥1) then (some (decide (part≤64))) else (some false)) else (some false)) else (some false):Option Bool)) fun o1=>some o1
theorem dO {size part r} (h:vY size part=some r):
    Fun Tryz.prog 121 [.int .i64 size, .int .i64 part] [] (Val (.bool r)):=by
 refine Fun.intro Tryz.func121 rfl rfl rfl fun w R=>?_;refine .ab [0,1] rfl<|.seq<|.bd h fun o1 hj1 h=>.cu 0 [.s 4 (.bool o1)] [] rfl rfl ?_ ?_
 ·refine .region<|.n 3 rfl<|.gs 7 hj1 rfl (fun hj1=>?_) (fun hj1=>?_)
  ·refine .n 4 rfl<|.gs 11 hj1 rfl (fun hj1=>?_) (fun hj1=>?_)
   ·refine .n 4 rfl<|.gs 15 hj1 rfl (fun hj1=>?_) (fun hj1=>?_)
    ·cases hj1;exact .be rfl<|.hU rfl zw
    cases hj1;exact .be rfl<|.hU rfl zw
   cases hj1;exact .be rfl<|.hU rfl zw
  cases hj1;exact .be rfl<|.hU rfl zw
 cases h;exact .rv rfl rfl ⟨rfl,rfl⟩ zw
theorem zSW:Ent Tryz.prog 122:=en Tryz.func122 (by kernel_rfl)
noncomputable def sK (size:Int) (part:Int):Option Int:=
 bnd (zOY .i64 (IntKind.wrap .i64 ((IntKind.wrap .i64 (size+part)) - 1)) part) fun q1=>some q1
theorem dN {size part r} (h:sK size part=some r):
    Fun Tryz.prog 122 [.int .i64 size, .int .i64 part] [] (Val (.int .i64 r)):=by
 refine Fun.intro Tryz.func122 rfl rfl rfl fun w R=>?_;refine .ab [0,1] rfl<|.a 5 rfl<|.bd h fun q1 hq1 h=>.quo rfl rfl rfl hq1<|.b [4] rfl ?_;cases h;exact .rv rfl rfl ⟨rfl,rfl⟩ zw
theorem zXo:Ent Tryz.prog 50:=en Tryz.func50 (by kernel_rfl)
noncomputable def sQ (size:Int) (part:Int):Option (xF × Int):=
 bnd (vY size part) fun r1=>bif !r1 then (some ((⟨0,0, [], []⟩:xF),2)) else (bnd (sK size part) fun r2=>bnd (mkS 1 false r2 r2) fun l1=>bnd (mkS 1 0 size size) fun l2=>some ((⟨size,part,l1,l2⟩:xF),0))
theorem zFD {size part r} (h:sQ size part=some r):
    Fun Tryz.prog 50 [.int .i64 size, .int .i64 part] [] (fun v F=>∃ A1 c1 A2 c2,v= .tuple #[.agg (sG r.1 A1 c1 A2 c2).toArray, .int .i64 r.2]∧F= [.ro (SlL yU A1 c1 r.1.Have), .ro (SlL eu8 A2 c2 r.1.Data)]):=by
 refine Fun.intro Tryz.func50 rfl rfl rfl fun w R=>?_;refine .seq<|.region<|.alloc rfl rfl fun g1=>.b [0,1,4] rfl<|.seq<|.a 2 rfl<|.bd h fun r1 hr1 h=>.cv [] (dO hr1) zSV rfl<|.b [0,1,4,9] rfl<|.cb h rfl (fun h=>?_) (fun h=>?_)
 ·refine .a 1 rfl<|.sb 0 0 rfl<|.b [4,5] rfl<|.asrt (fun _ w=>w.nilSl (cod yU))<|.asrt (fun _ w=>w.nilSl (cod eu8)) ?_;cases h;exact .rt rfl Tryz.results50 (.cell rfl (.tail _ (.tail _ (.head _))) rfl (.tmp rfl .nil)) rfl ⟨none,0,none,0,rfl,rfl⟩ (zk 2 3 [1,0] [] 0 rfl)
 refine .sk<|.pr [0,1,4] rfl<|.seq<|.bd h fun r2 hr2 h=>.bd h fun l1 hl1 h=>.bd h fun l2 hl2 h=>.regionX (iN [0,4,8,12,18,24] (.alt (iN [23] (iN [31,32] (iN [39,40] .nil))) (iN [31] (iN [23,32] (iN [39,40] .nil))))) _ mixed (by kernel_rfl) (zl [] 1 rfl)<|.shareK (Y:=?Ynd1_0) 0 (fun (e:Nat × Nat)=>[4, .s 11 (.int .i64 size), .s 12 (.int .i64 part), .s 16 (.slice (some ⟨e.1,0,none⟩) l1.length (Int.toNat r2)), .s 18 (.slice (some ⟨e.2,0,none⟩) l2.length (Int.toNat size)), .s 19 (.agg #[.int .i64 size, .int .i64 part, .slice (some ⟨e.1,0,none⟩) l1.length (Int.toNat r2), .slice (some ⟨e.2,0,none⟩) l2.length (Int.toNat size)])]) (fun e=>[.res (zM eu8 5 (some ⟨e.2,0,none⟩) (Int.toNat size) l2), .res (zM yU 4 (some ⟨e.1,0,none⟩) (Int.toNat r2) l1)]) rfl rfl (fun hnd1_0=>?mnd1_0) ?tnd1_0
 case mnd1_0=>
  refine .yn 4 rfl<|.xqc (fun _ h=>h) (dN hr2) zSW rfl rfl rfl rfl trivial<|.yn 1 rfl<|.xalt ?_ ?_
  ·refine .xef<|.mkL (E:=yU) false hl1 rfl rfl rfl rfl rfl rfl rfl rfl rfl rfl fun g2=>.xk (zl [] 2 rfl)<|.xef<|.mkL (E:=eu8) 0 hl2 rfl rfl rfl rfl rfl rfl rfl rfl rfl rfl fun g3=>.xk (zl [] 3 rfl)<|.yn 1 rfl ?_;refine hnd1_0 _ _ (g2,g3) ?_ ?_
   ·exact ⟨rfl,rfl,rfl,rfl,rfl,rfl,trivial⟩
   exact fun _ w=>w
  refine .xef<|.mkL (E:=eu8) 0 hl2 rfl rfl rfl rfl rfl rfl rfl rfl rfl rfl fun g3=>.xk (zl [] 2 rfl)<|.xef<|.mkL (E:=yU) false hl1 rfl rfl rfl rfl rfl rfl rfl rfl rfl rfl fun g2=>.xk (zl [] 3 rfl)<|.yn 1 rfl ?_;refine hnd1_0 _ _ (g2,g3) ?_ ?_
  ·exact ⟨rfl,rfl,rfl,rfl,rfl,rfl,trivial⟩
  exact fun _ w=>(w.sl [1] 0 rfl)
 case tnd1_0=>
  rintro ⟨g2,g3⟩;refine .nm 3 rfl<|.xef<|.sb 0 2 rfl<|.xk (zl [] 3 rfl)<|.yn 1 rfl<|.xdone<|.thenN<|.pr [4,5] rfl<|.asrt (fun _ w=>(w.sl [2] 0 rfl).meltL)<|.asrt (fun _ w=>(w.sl [2] 0 rfl).meltL) ?_;cases h;exact .rt rfl Tryz.results50 (.cell rfl (.tail _ (.tail _ (.head _))) rfl (.tmp rfl .nil)) rfl ⟨(some ⟨g2,0,none⟩),(Int.toNat r2),(some ⟨g3,0,none⟩),(Int.toNat size),rfl,rfl⟩ (zk 2 3 [1,0] [] 0 rfl)
theorem zVe:Ent Tryz.prog 18:=en Tryz.func18 (by kernel_rfl)
noncomputable def xG (a_p0:zD) (size:Int) (part:Int):Option (zD × Int):=
 bif (a_p0.phase==2||(a_p0.phase==3||false)) then (some (a_p0,46)) else (bnd (sQ size part) fun r1=>bif (r1.2 != 0) then (some (a_p0,r1.2)) else (some ((⟨a_p0.store,a_p0.devices,a_p0.needs,1,r1.1,a_p0.before,a_p0.order⟩:zD),0)))
theorem iC {a_p0 size part A1 c1 A2 c2 A3 c3 A4 c4 A5 c5 gb1 gb2 r} (h:xG a_p0 size part=some r):
    Fun Tryz.prog 18 [.pointer (some ⟨gb1,0,none⟩), .int .i64 size, .int .i64 part] [.ro (SlL zR A2 c2 a_p0.needs), .ro (SlL yU A3 c3 a_p0.load.Have), .ro (SlL eu8 A4 c4 a_p0.load.Data), .ro (SlL yH A5 c5 a_p0.order), .ro (zGA 0 [(2,some 315),(3,some 316)]), .res (Box gb1 144 (zI a_p0 gb2 A1 c1 A2 c2 A3 c3 A4 c4 A5 c5)), .res (xK (yL zE) 64 A1 c1 a_p0.devices)] (fun v F=>∃ A6 c6 A7 c7 A8 c8 A9 c9 A10 c10,v= .int .i64 r.2∧F= [.ro (SlL zR A7 c7 r.1.needs), .ro (SlL yU A8 c8 r.1.load.Have), .ro (SlL eu8 A9 c9 r.1.load.Data), .ro (SlL yH A10 c10 r.1.order), .res (Box gb1 144 (zI r.1 gb2 A6 c6 A7 c7 A8 c8 A9 c9 A10 c10)), .res (xK (yL zE) 64 A6 c6 r.1.devices)]):=by
 refine Fun.intro Tryz.func18 rfl rfl rfl fun w R=>?_;refine .ab [0,1,2] rfl<|.seq<|.seq<|.regionF mixed (by kernel_rfl)<|.openF (zm 4 rfl) fun gm1=>.ld 0 0 0 rfl<|.n 3 rfl<|.lb 3 7 rfl<|.lookupF rfl rfl rfl (.tail _ (.head _)) rfl rfl rfl rfl rfl (by rfl)<|.nilF (r:=(a_p0.phase==2||(a_p0.phase==3||false))) rfl rfl rfl (by kernel_rfl) rfl (.inr ⟨rfl,rfl⟩)<|.beq rfl<|.pf [0,1,2,15] [] 2 rfl rfl<|.cb h rfl (fun h=>?_) (fun h=>?_)
 ·refine .ab [6] rfl ?_;cases h;exact .rv rfl rfl ⟨A1,c1,A2,c2,A3,c3,A4,c4,A5,c5,rfl,rfl⟩ (zk 6 5 [2,3,4,5] [5,5] 0 rfl)
 refine .sk<|.pr [0,1,2] rfl<|.a 2 rfl<|.bd h fun r1 hr1 h=>.ct 9 [] [] 0 (zFD hr1) zXo rfl fun A6 c6 A7 c7=>.n 3 rfl<|.alloc rfl rfl fun g1=>.sb 0 0 rfl<|.b [0,7,8] rfl<|.seq<|.ab [0,7,8,23] rfl<|.cb h rfl (fun h=>?_) (fun h=>?_)
 ·refine .abf [6] [] 3 rfl rfl ?_;cases h;exact .rv rfl rfl ⟨A1,c1,A2,c2,A3,c3,A4,c4,A5,c5,rfl,rfl⟩ (zk 6 5 [2,3,4,5] [5,5] 0 rfl)
 refine .sk<|.pr [0,7] rfl<|.a 2 rfl<|.lb 0 0 rfl<|.n 2 rfl<|.sb 4 8 rfl<|.n 2 rfl<|.sb 3 0 rfl<|.bf [] [0,1,1,1] 3 rfl rfl<|.ae rfl ?_;cases h;exact .rv rfl rfl ⟨A1,c1,A2,c2,A6,c6,A7,c7,A5,c5,rfl,rfl⟩ (zk 6 5 [4,2,3,5] [0,5] 0 rfl)
theorem zJv:Ent Tryz.prog 156:=en Tryz.func156 (by kernel_rfl)
noncomputable def sN (d_p0:xF) (i_p1:Int):Option (List Int):=
 bnd (sub d_p0.Data (IntKind.wrap .i64 (i_p1*d_p0.Part)) (min (IntKind.wrap .i64 ((IntKind.wrap .i64 (i_p1*d_p0.Part))+d_p0.Part)) d_p0.Size)) fun l1=>some l1
theorem jH {d_p0 i_p1 A1 c1 A2 c2 r} (h:sN d_p0 i_p1=some r):
    Fun Tryz.prog 156 [.agg (sG d_p0 A1 c1 A2 c2).toArray, .int .i64 i_p1] [.ro (SlL yU A1 c1 d_p0.Have), .ro (SlL eu8 A2 c2 d_p0.Data)] (fun v F=>∃ A3 c3,v= .slice A3 r.length c3∧F= [.ro (SlL eu8 A3 c3 r)]):=by
 refine Fun.intro Tryz.func156 rfl rfl rfl fun w R=>?_;refine .seq<|.region<|.box rfl rfl fun g1=>.b [1,2] rfl<|.a 2 rfl<|.lb 1 0 rfl<|.b [2,5] rfl<|.a 2 rfl<|.lb 1 0 rfl<|.n 2 rfl<|.lb 0 0 rfl<|.b [2,5,6] rfl<|.a 1 rfl<|.lb 3 0 rfl<|.n 3 rfl<|.bd h fun l1 hl1 h=>.sub3 (E:=(cod eu8)) rfl rfl (zm 2 rfl) rfl rfl rfl rfl rfl rfl rfl rfl hl1 fun A3 c3=>.bf [4] [0] 3 rfl rfl ?_;cases h;exact .rv rfl rfl ⟨A3,c3,rfl,rfl⟩ (zk 1 1 [0] [] 0 rfl)
theorem zVD:Ent Tryz.prog 229:=en Tryz.func229 (by kernel_rfl)
noncomputable def pD (b_p0:Int):Option Bool:=
 some (b_p0 != 0)
theorem zBi {b_p0 r} (h:pD b_p0=some r):
    Fun Tryz.prog 229 [.int .u8 b_p0] [] (Val (.bool r)):=by
 unfold pD at h
 refine Fun.intro Tryz.func229 rfl rfl rfl fun w R=>?_;refine .ab [0] rfl<|.ab [2] rfl ?_;cases h;exact .rv rfl rfl ⟨rfl,rfl⟩ zw
noncomputable def vS (s_p0:(List Int)):Option Int:=
 bnd (yG (τ:=Int ⊕ Unit) (fun (s1:Int)=>bif decide (s1<(s_p0.length:Int)) then (bnd (elt s_p0 s1) fun x1=>bnd (pD x1) fun r1=>bif r1 then (some (.done (.inl s1))) else (some (.next (IntKind.wrap .i64 (s1+1))))) else (some (.done (.inr ())))) 0) fun o1=>wT o1 fun o2=>some (-1)
theorem mP {s_p0 A1 c1 r} (h:vS s_p0=some r):
    Fun Tryz.prog 255 [.slice A1 s_p0.length c1, .func (.func 229) #[] #[]] [.ro (SlL eu8 A1 c1 s_p0)] (Val (.int .i64 r)):=by
 refine Fun.intro Tryz.func255 rfl rfl rfl fun w R=>?_;refine .ab [0,1] rfl<|.seq<|.ab [0,1,7,8] rfl<|.bd h fun o1 hl1 h=>.cutJ 1 (fun (o2:Unit) (e2:Unit)=>[]) (fun o2 e2=>[]) rfl rfl (fun o2=>o1= .inr o2) ?_ ?_
 ·refine .block<|.loopQ hl1 0 (fun (s1:Int) (e1:Unit)=>[0,1,7, .s 8 (.int .i64 s1)]) (fun s1 e1=>[]) rfl rfl () (zb rfl) (fun _ w=>w) ?_;rintro s1 e1 st1 hm1 hd1 h1;refine .ae rfl<|.seq<|.cb h1 rfl (fun h1=>?_) (fun h1=>?_)
  ·refine .sk<|.pr [0,1,7,8] rfl<|.seq<|.block<|.ab [0,1,5,7,8] rfl<|.a 3 rfl<|.bd h1 fun x1 hx1 h1=>.ix1 hx1 0 rfl fun b1 ob1=>.ld ob1 0 0 rfl<|.bd h1 fun r1 hr1 h1=>.cv [] (zBi hr1) zVD rfl<|.bf [0,1,5,7,8,16] [] 1 rfl rfl<|.cb h1 rfl (fun h1=>?_) (fun h1=>?_)
   ·refine .abf [4] [] 1 rfl rfl ?_;cases h1;cases hd1 _ rfl
    have h:some _=some _:=h;cases h;exact .rv rfl rfl ⟨rfl,rfl⟩ zw
   refine .skip<|.blkN<|.thenN<|.pr [0,1,7,8] rfl<|.region ?_;cases h1;exact .be rfl<|.ag () hm1 rfl zw
  refine .xq rfl ?_;cases h1;cases hd1 _ rfl
  exact .thenN<|.hereI () () rfl trivial (zl [] 1 rfl)
 rintro o2 e2 ho;subst ho;have h:=unR h;refine .ae rfl ?_;cases h;exact .rv rfl rfl ⟨rfl,rfl⟩ zw
noncomputable def xZ (s_p0:(List Int)):Option Bool:=
 bnd (vS s_p0) fun r1=>some (decide (r1≥0))
theorem nH {s_p0 A1 c1 r} (h:xZ s_p0=some r):
    Fun Tryz.prog 222 [.slice A1 s_p0.length c1, .func (.func 229) #[] #[]] [.ro (SlL eu8 A1 c1 s_p0)] (Val (.bool r)):=by
 refine Fun.intro Tryz.func222 rfl rfl rfl fun w R=>?_;refine .ab [0,1] rfl<|.a 2 rfl<|.bd h fun r1 hr1 h=>.cv [0] (mP hr1) zQG rfl<|.bf [4] [] 1 rfl rfl ?_;cases h;exact .rv rfl rfl ⟨rfl,rfl⟩ zw
theorem zNw:Ent Tryz.prog 155:=en Tryz.func155 (by kernel_rfl)
noncomputable def sJ (d_p0:xF):Option Bool:=
 bnd ((bnd (vY d_p0.Size d_p0.Part) fun r1=>bif !r1 then (some true) else (bnd (sK d_p0.Size d_p0.Part) fun r2=>bif ((d_p0.Have.length:Int) != r2) then (some true) else (some ((d_p0.Data.length:Int) != d_p0.Size))):Option Bool)) fun o1=>bif o1 then (some false) else (bnd (yG (τ:=Bool ⊕ Unit) (fun (s1:Int)=>bif decide (s1<(d_p0.Have.length:Int)) then (bnd (elt d_p0.Have s1) fun x1=>bnd ((bif !x1 then (bnd (sN d_p0 s1) fun r3=>bnd (xZ r3) fun r4=>some r4) else (some false):Option Bool)) fun o4=>bif o4 then (some (.done (.inl false))) else (some (.next (IntKind.wrap .i64 (s1+1))))) else (some (.done (.inr ())))) 0) fun o2=>wT o2 fun o3=>some true)
theorem jE {d_p0 A1 c1 A2 c2 r} (h:sJ d_p0=some r):
    Fun Tryz.prog 155 [.agg (sG d_p0 A1 c1 A2 c2).toArray] [.ro (SlL yU A1 c1 d_p0.Have), .ro (SlL eu8 A2 c2 d_p0.Data)] (Val (.bool r)):=by
 refine Fun.intro Tryz.func155 rfl rfl rfl fun w R=>?_;refine .seq<|.region<|.box rfl rfl fun g1=>.b [1] rfl<|.seq<|.seq<|.bd h fun o1 hj1 h=>.cu 0 [1, .s 29 (.bool o1)] [] rfl rfl ?_ ?_
 ·refine .regionF mixed (by kernel_rfl)<|.p rfl rfl<|.lb 0 0 rfl<|.p rfl rfl<|.lb 1 0 rfl<|.bd hj1 fun r1 hr1 hj1=>.cv [] (dO hr1) zSV rfl<|.n 2 rfl<|.gs 11 hj1 rfl (fun hj1=>?_) (fun hj1=>?_)
  ·cases hj1;exact .beq rfl<|.hU rfl zw
  refine .n 1 rfl<|.gOn rfl rfl<|.lb 2 0 rfl<|.n 2 rfl<|.gOn rfl rfl<|.lb 0 0 rfl<|.n 1 rfl<|.gOn rfl rfl<|.lb 1 0 rfl<|.gOn rfl rfl<|.bd hj1 fun r2 hr2 hj1=>.cv [] (dN hr2) zSW rfl<|.n 3 rfl<|.gs 22 hj1 rfl (fun hj1=>?_) (fun hj1=>?_)
  ·cases hj1;exact .beq rfl<|.hU rfl zw
  refine .n 1 rfl<|.gOn rfl rfl<|.lb 3 0 rfl<|.n 2 rfl<|.gOn rfl rfl<|.lb 0 0 rfl ?_;cases hj1;exact .beq rfl<|.hU rfl zw
 refine .cb h rfl (fun h=>?_) (fun h=>?_)
 ·refine .abf [2] [] 3 rfl rfl ?_;cases h;exact .rv rfl rfl ⟨rfl,rfl⟩ zw
 refine .sk<|.pr [1] rfl<|.seq<|.a 1 rfl<|.lb 2 0 rfl<|.b [1,31,32,33] rfl<|.bd h fun o2 hl1 h=>.cutJ 3 (fun (o3:Unit) (e3:Unit)=>[]) (fun o3 e3=>[]) rfl rfl (fun o3=>o2= .inr o3) ?_ ?_
 ·refine .block<|.loopQ hl1 0 (fun (s1:Int) (e2:Unit)=>[1,31,32, .s 33 (.int .i64 s1)]) (fun s1 e2=>[]) rfl rfl () (zb rfl) (fun _ w=>w) ?_;rintro s1 e2 st1 hm1 hd1 h1;refine .ae rfl<|.seq<|.cb h1 rfl (fun h1=>?_) (fun h1=>?_)
  ·refine .sk<|.pr [1,31,32,33] rfl<|.seq<|.block<|.a 1 rfl<|.bd h1 fun x1 hx1 h1=>.ix1 hx1 1 rfl fun b1 ob1=>.ld ob1 0 0 rfl<|.bf [1,3,4,31,32,33] [] 1 rfl rfl<|.seq<|.bd h1 fun o4 hj2 h1=>.cu 0 [1,31,32,33, .s 45 (.bool o4)] [] rfl rfl ?_ ?_
   ·refine .region<|.n 3 rfl<|.gs 40 hj2 rfl (fun hj2=>?_) (fun hj2=>?_)
    ·refine .gOn rfl rfl<|.lb 0 0 rfl<|.n 1 rfl<|.gOn rfl rfl<|.bd hj2 fun r3 hr3 hj2=>.cr 4 [1,2] [] 0 (jH hr3) zJv rfl fun A3 c3=>.gOn rfl rfl<|.bd hj2 fun r4 hr4 hj2=>.cv [0] (nH hr4) zQR rfl ?_;cases hj2;exact .be rfl<|.hU rfl (zl [] 1 rfl)
    cases hj2;exact .be rfl<|.hU rfl zw
   refine .cb h1 rfl (fun h1=>?_) (fun h1=>?_)
   ·refine .abf [2] [] 3 rfl rfl ?_;cases h1;cases hd1 _ rfl
    have h:some _=some _:=h;cases h;exact .rv rfl rfl ⟨rfl,rfl⟩ zw
   refine .skip<|.blkN<|.thenN<|.pr [1,31,32,33] rfl<|.region ?_;cases h1;exact .be rfl<|.ag () hm1 rfl zw
  refine .xq rfl ?_;cases h1;cases hd1 _ rfl
  exact .thenN<|.hereI () () rfl trivial (zl [] 3 rfl)
 rintro o3 e3 ho;subst ho;have h:=unR h;refine .ae rfl ?_;cases h;exact .rv rfl rfl ⟨rfl,rfl⟩ zw
theorem zVq:Ent Tryz.prog 157:=en Tryz.func157 (by kernel_rfl)
noncomputable def nR (s1_p0:(List Int)) (s2_p1:(List Int)):Option Bool:=
 bif ((s1_p0.length:Int) != (s2_p1.length:Int)) then (some false) else (bnd (yG (τ:=Bool ⊕ Unit) (fun (s1:Int)=>bif decide (s1<(s1_p0.length:Int)) then (bnd (elt s1_p0 s1) fun x1=>bnd (elt s2_p1 s1) fun x2=>bif (x1 != x2) then (some (.done (.inl false))) else (some (.next (IntKind.wrap .i64 (s1+1))))) else (some (.done (.inr ())))) 0) fun o1=>wT o1 fun o2=>some true)
theorem fP {s1_p0 s2_p1 A1 c1 A2 c2 r} (h:nR s1_p0 s2_p1=some r):
    Fun Tryz.prog 157 [.slice A1 s1_p0.length c1, .slice A2 s2_p1.length c2] [.ro (SlL eu8 A1 c1 s1_p0), .ro (SlL eu8 A2 c2 s2_p1)] (Val (.bool r)):=by
 refine Fun.intro Tryz.func157 rfl rfl rfl fun w R=>?_;refine .ab [0,1] rfl<|.seq<|.ab [0,1,10] rfl<|.cb h rfl (fun h=>?_) (fun h=>?_)
 ·refine .abf [4] [] 2 rfl rfl ?_;cases h;exact .rv rfl rfl ⟨rfl,rfl⟩ zw
 refine .sk<|.pr [0,1] rfl<|.seq<|.ab [0,1,12,13] rfl<|.bd h fun o1 hl1 h=>.cutJ 2 (fun (o2:Unit) (e2:Unit)=>[]) (fun o2 e2=>[]) rfl rfl (fun o2=>o1= .inr o2) ?_ ?_
 ·refine .block<|.loopQ hl1 0 (fun (s1:Int) (e1:Unit)=>[0,1,12, .s 13 (.int .i64 s1)]) (fun s1 e1=>[]) rfl rfl () (zb rfl) (fun _ w=>w) ?_;rintro s1 e1 st1 hm1 hd1 h1;refine .ae rfl<|.seq<|.cb h1 rfl (fun h1=>?_) (fun h1=>?_)
  ·refine .sk<|.pr [0,1,12,13] rfl<|.seq<|.block<|.ab [0,1,5,12,13] rfl<|.seq<|.regionF mixed (by kernel_rfl)<|.n 2 rfl<|.bd h1 fun x1 hx1 h1=>.ix1 hx1 0 rfl fun b1 ob1=>.ld ob1 0 0 rfl<|.n 2 rfl<|.bd h1 fun x2 hx2 h1=>.ix1 hx2 2 rfl fun b2 ob2=>.ld ob2 0 0 rfl<|.beq rfl<|.pf [0,1,12,13,24] [] 2 rfl rfl<|.cb h1 rfl (fun h1=>?_) (fun h1=>?_)
   ·refine .abf [4] [] 2 rfl rfl ?_;cases h1;cases hd1 _ rfl
    have h:some _=some _:=h;cases h;exact .rv rfl rfl ⟨rfl,rfl⟩ zw
   refine .skip<|.blkN<|.thenN<|.pr [0,1,12,13] rfl<|.region ?_;cases h1;exact .be rfl<|.ag () hm1 rfl zw
  refine .xq rfl ?_;cases h1;cases hd1 _ rfl
  exact .thenN<|.hereI () () rfl trivial (zl [] 2 rfl)
 rintro o2 e2 ho;subst ho;have h:=unR h;refine .ae rfl ?_;cases h;exact .rv rfl rfl ⟨rfl,rfl⟩ zw
theorem zRX:Ent Tryz.prog 158:=en Tryz.func158 (by kernel_rfl)
noncomputable def vA (s_p0:(List Bool)):Option (List Bool):=
 bnd (app 1 ([]) s_p0) fun l1=>some l1
theorem nQ {s_p0 A1 c1 r} (h:vA s_p0=some r):
    Fun Tryz.prog 158 [.slice A1 s_p0.length c1] [.ro (SlL yU A1 c1 s_p0)] (fun v F=>∃ A2 c2,v= .slice A2 r.length c2∧F= [.res (zM yU 4 A2 c2 r)]):=by
 unfold vA at h
 refine Fun.intro Tryz.func158 rfl rfl rfl fun w R=>?_
 rcases A1 with _ | ad
 ·refine .fact (φ:=s_p0= []) (fun w hf=>(hf.ro (r:=SlL yU none c1 s_p0) (.head _)).2.2.1 rfl) fun hs=>?_;subst hs;have h:(some ([]):Option (List Bool))=some r:=by simpa [app,bnd] using h
  refine .ab [0] rfl<|.seq<|.ab [0,4] rfl<|.condT rfl<|.abf [2] [] 1 rfl rfl<|.asrt (fun _ w=>w.nilL yU 4) ?_;cases h;exact .rv rfl rfl ⟨none,0,rfl,rfl⟩ zw
 refine .ab [0] rfl<|.seq<|.ab [0,4] rfl<|.condF rfl<|.sk<|.pr [0] rfl<|.seq<|.region<|.bS rfl fun g1=>.p rfl rfl<|.asrt (fun _ w=>w.litL (E:=yU) (e:=4) [] rfl rfl)<|.bd h fun l1 hl1 h=>.app (E:=yU) hl1 rfl rfl rfl .z rfl rfl rfl rfl rfl rfl rfl rfl (fB (.tail _ (.head _))) rfl rfl fun A2 c2=>.bf [2] [0] 1 rfl rfl ?_;cases h;exact .rv rfl rfl ⟨A2,c2,rfl,rfl⟩ zw
noncomputable def qG (d_p0:xF) (i_p1:Int):Option (Nat × Nat):=
 bnd (lE d_p0.Data.length (IntKind.wrap .i64 (i_p1*d_p0.Part)) (min (IntKind.wrap .i64 ((IntKind.wrap .i64 (i_p1*d_p0.Part))+d_p0.Part)) d_p0.Size)) fun n1=>some (Int.toNat (IntKind.wrap .i64 (i_p1*d_p0.Part)),n1)
theorem zAS {d_p0 i_p1 A1 c1 A2 c2 r} (h:qG d_p0 i_p1=some r):
    Fun Tryz.prog 156 [.agg (sG d_p0 A1 c1 A2 c2).toArray, .int .i64 i_p1] [.res (zM yU 4 A1 c1 d_p0.Have), .res (zM eu8 5 A2 c2 d_p0.Data)] (fun v F=>∃ A3 c3,zUO A3 A2 r.2 c2 r.1 1∧v= .slice A3 r.2 c3∧F= [.res (zM yU 4 A1 c1 d_p0.Have), .res (zM eu8 5 A2 c2 d_p0.Data)]):=by
 refine Fun.intro Tryz.func156 rfl rfl rfl fun w R=>?_;refine .seq<|.region<|.box rfl rfl fun g1=>.b [1,2] rfl<|.a 2 rfl<|.lb 1 0 rfl<|.b [2,5] rfl<|.a 2 rfl<|.lb 1 0 rfl<|.n 2 rfl<|.lb 0 0 rfl<|.b [2,5,6] rfl<|.a 1 rfl<|.lb 3 0 rfl<|.n 3 rfl<|.bd h fun n1 hn1 h=>.part3 (E:=eu8) hn1 rfl rfl (zm 2 rfl) rfl rfl rfl rfl rfl rfl rfl rfl fun A3 c3 hp1=>.bf [4] [] 1 rfl rfl ?_;cases h;exact .rv rfl rfl ⟨A3,c3,hp1,rfl,rfl⟩ zw
theorem zXO:Ent Tryz.prog 69:=en Tryz.func69 (by kernel_rfl)
noncomputable def rR (d_p0:xF) (index:Int) (data:(List Int)):Option (xF × Int):=
 bnd (sJ d_p0) fun r1=>bif !r1 then (some ((⟨0,0, [], []⟩:xF),1)) else (bnd ((bif decide (index<0) then (some true) else (some (decide (index≥(d_p0.Have.length:Int)))):Option Bool)) fun o1=>bif o1 then (some ((⟨0,0, [], []⟩:xF),2)) else (bnd (sN d_p0 index) fun r2=>bif ((data.length:Int) != (r2.length:Int)) then (some ((⟨0,0, [], []⟩:xF),4)) else (bnd ((bnd (elt d_p0.Have index) fun x1=>bif x1 then (bnd (sN d_p0 index) fun r3=>bnd (nR data r3) fun r4=>some (!r4)) else (some false):Option Bool)) fun o2=>bif o2 then (some ((⟨0,0, [], []⟩:xF),42)) else (bnd (vA d_p0.Have) fun r5=>bnd (zP d_p0.Data) fun r6=>bnd (elt r5 index) fun x2=>bnd (tH r5 index true) fun l1=>bnd (qG (⟨d_p0.Size,d_p0.Part,l1,r6⟩:xF) index) fun r7=>bnd (iE r6 r7.1 r7.2 data) fun l2=>some ((⟨d_p0.Size,d_p0.Part,l1,l2⟩:xF),0)))))
theorem zCi {d_p0 index data A1 c1 A2 c2 A3 c3 r} (h:rR d_p0 index data=some r):
    Fun Tryz.prog 69 [.agg (sG d_p0 A1 c1 A2 c2).toArray, .int .i64 index, .slice A3 data.length c3] [.ro (SlL yU A1 c1 d_p0.Have), .ro (SlL eu8 A2 c2 d_p0.Data), .ro (SlL eu8 A3 c3 data)] (fun v F=>∃ A4 c4 A5 c5,v= .tuple #[.agg (sG r.1 A4 c4 A5 c5).toArray, .int .i64 r.2]∧F= [.ro (SlL yU A4 c4 r.1.Have), .ro (SlL eu8 A5 c5 r.1.Data)]):=by
 refine Fun.intro Tryz.func69 rfl rfl rfl fun w R=>?_;refine .seq<|.region<|.box rfl rfl fun g1=>.alloc rfl rfl fun g2=>.b [1,2,3,6] rfl<|.seq<|.seq<|.region<|.lb 0 1 rfl<|.bd h fun r1 hr1 h=>.cv [2,3] (jE hr1) zNw rfl<|.b [1,2,3,6,10] rfl<|.cb h rfl (fun h=>?_) (fun h=>?_)
 ·refine .a 1 rfl<|.sb 0 0 rfl<|.bf [6,7] [0] 4 rfl rfl<|.asrt (fun _ w=>w.nilSl (cod yU))<|.asrt (fun _ w=>w.nilSl (cod eu8)) ?_;cases h;exact .rt rfl Tryz.results69 (.cell rfl (.tail _ (.tail _ (.head _))) rfl (.tmp rfl .nil)) rfl ⟨none,0,none,0,rfl,rfl⟩ (zk 2 3 [1,0] [] 0 rfl)
 refine .sk<|.pr [1,2,3,6] rfl<|.seq<|.seq<|.bd h fun o1 hj1 h=>.cu 0 [1,2,3,6, .s 20 (.bool o1)] [] rfl rfl ?_ ?_
 ·refine .region<|.n 3 rfl<|.gs 14 hj1 rfl (fun hj1=>?_) (fun hj1=>?_)
  ·cases hj1;exact .be rfl<|.hU rfl zw
  refine .n 2 rfl<|.gOn rfl rfl<|.lb 2 1 rfl ?_;cases hj1;exact .be rfl<|.hU rfl zw
 refine .cb h rfl (fun h=>?_) (fun h=>?_)
 ·refine .a 1 rfl<|.sb 0 0 rfl<|.bf [6,7] [0] 4 rfl rfl<|.asrt (fun _ w=>w.nilSl (cod yU))<|.asrt (fun _ w=>w.nilSl (cod eu8)) ?_;cases h;exact .rt rfl Tryz.results69 (.cell rfl (.tail _ (.tail _ (.head _))) rfl (.tmp rfl .nil)) rfl ⟨none,0,none,0,rfl,rfl⟩ (zk 2 3 [1,0] [] 0 rfl)
 refine .sk<|.pr [1,2,3,6] rfl<|.seq<|.a 2 rfl<|.lb 0 1 rfl<|.p rfl rfl<|.bd h fun r2 hr2 h=>.cr 6 [2,3] [] 0 (jH hr2) zJv rfl fun A4 c4=>.bf [1,2,3,6,28] [] 1 rfl rfl<|.cb h rfl (fun h=>?_) (fun h=>?_)
 ·refine .a 1 rfl<|.sb 0 0 rfl<|.bf [6,7] [0] 4 rfl rfl<|.asrt (fun _ w=>w.nilSl (cod yU))<|.asrt (fun _ w=>w.nilSl (cod eu8)) ?_;cases h;exact .rt rfl Tryz.results69 (.cell rfl (.tail _ (.tail _ (.head _))) rfl (.tmp rfl .nil)) rfl ⟨none,0,none,0,rfl,rfl⟩ (zk 2 3 [1,0] [] 0 rfl)
 refine .sk<|.pr [1,2,3,6] rfl<|.seq<|.seq<|.bd h fun o2 hj2 h=>.cu 0 [1,2,3,6, .s 42 (.bool o2)] [] rfl rfl ?_ ?_
 ·refine .region<|.p rfl rfl<|.lb 2 1 rfl<|.p rfl rfl<|.bd hj2 fun x1 hx1 hj2=>.ix1 hx1 2 rfl fun b1 ob1=>.ld ob1 0 0 rfl<|.p rfl rfl<|.gs 35 hj2 rfl (fun hj2=>?_) (fun hj2=>?_)
  ·refine .n 1 rfl<|.gOn rfl rfl<|.lb 0 2 rfl<|.n 1 rfl<|.gOn rfl rfl<|.bd hj2 fun r3 hr3 hj2=>.cr 7 [3,4] [] 0 (jH hr3) zJv rfl fun A5 c5=>.gOn rfl rfl<|.bd hj2 fun r4 hr4 hj2=>.cv [6,0] (fP hr4) zVq rfl ?_;cases hj2;exact .be rfl<|.hU rfl (zl [] 2 rfl)
  cases hj2;exact .be rfl<|.hU rfl (zl [] 1 rfl)
 refine .cb h rfl (fun h=>?_) (fun h=>?_)
 ·refine .a 1 rfl<|.sb 0 0 rfl<|.bf [6,7] [0] 4 rfl rfl<|.asrt (fun _ w=>w.nilSl (cod yU))<|.asrt (fun _ w=>w.nilSl (cod eu8)) ?_;cases h;exact .rt rfl Tryz.results69 (.cell rfl (.tail _ (.tail _ (.head _))) rfl (.tmp rfl .nil)) rfl ⟨none,0,none,0,rfl,rfl⟩ (zk 2 3 [1,0] [] 0 rfl)
 refine .sk<|.pr [1,2,3,6] rfl<|.seq<|.bd h fun r5 hr5 h=>.bd h fun r6 hr6 h=>.regionX (iN [0,12] (.alt (iN [7] (.alt (iN [11] (iN [19,24] (iN [23] (iN [31,32] (iN [39] .nil))))) (iN [19] (iN [11,24] (iN [23] (iN [31,32] (iN [39] .nil))))))) (iN [19] (iN [7] (iN [11,24] (iN [23] (iN [31,32] (iN [39] .nil)))))))) _ mixed (by kernel_rfl) (zl [0] 1 rfl)<|.shareK (Y:=?Ynd1_0) 0 (fun (e:Option Addr × Nat)=>[1,2,3,6, .s 46 (.slice e.1 r5.length e.2), .s 48 (.slice A2 d_p0.Data.length c2), .s 50 (.pointer (some ⟨g1,2,none⟩))]) (fun e=>[.res (zM yU 4 e.1 e.2 r5)]) rfl rfl (fun hnd1_0=>?mnd1_0) ?tnd1_0
 case mnd1_0=>
  refine .shareK (Y:=?Ynd1_1) 0 (fun (e:Unit)=>[1,2,3,6, .s 45 (.slice A1 d_p0.Have.length c1), .s 48 (.slice A2 d_p0.Data.length c2)]) (fun e=>[]) rfl rfl (fun hnd1_1=>?mnd1_1) ?tnd1_1
  case mnd1_1=>
   refine .yn 2 rfl<|.xalt ?_ ?_
   ·refine .xef<|.lb 2 1 rfl<|.xk (zl [0] 1 rfl)<|.xalt ?_ ?_
    ·refine .xef<|.cr 6 [2] [] 0 (nQ hr5) zRX rfl fun A6 c6=>.xk (zl [1] 2 rfl)<|.xef<|.lb 3 2 rfl<|.xk (zl [1] 2 rfl)<|.yn 1 rfl ?_;refine hnd1_0 _ _ (A6,c6) ?_ ?_
     ·exact ⟨rfl,rfl,rfl,rfl,rfl,rfl,rfl,trivial⟩
     exact fun _ w=>w
    refine .xef<|.lb 3 1 rfl<|.xk (zl [0] 1 rfl) ?_;refine hnd1_1 _ _ () ?_ ?_
    ·exact ⟨rfl,rfl,rfl,rfl,rfl,rfl,trivial⟩
    exact fun _ w=>w
   refine .xef<|.lb 3 1 rfl<|.xk (zl [0] 1 rfl)<|.xef<|.lb 2 1 rfl<|.xk (zl [0] 1 rfl) ?_;refine hnd1_1 _ _ () ?_ ?_
   ·exact ⟨rfl,rfl,rfl,rfl,rfl,rfl,trivial⟩
   exact fun _ w=>w
  case tnd1_1=>
   rintro ⟨⟩;refine .nm 5 rfl<|.xef<|.cr 6 [2] [] 0 (nQ hr5) zRX rfl fun A6 c6=>.xk (zl [1] 2 rfl)<|.yn 1 rfl ?_;refine hnd1_0 _ _ (A6,c6) ?_ ?_
   ·exact ⟨rfl,rfl,rfl,rfl,rfl,rfl,rfl,trivial⟩
   exact fun _ w=>w
 case tnd1_0=>
  rintro ⟨A6,c6⟩;refine .nm 6 rfl<|.xef<|.cr 7 [4] [] 0 (yM hr6) bO rfl fun A7 c7=>.xk (zl [2] 3 rfl)<|.xef<|.sb 2 3 rfl<|.xk (zl [] 3 rfl)<|.yn 1 rfl<|.xef<|.sb 3 0 rfl<|.xk (zl [] 3 rfl)<|.xdone<|.thenN<|.pf [1,2,3,6] [0,0,0,0] 2 rfl rfl<|.a 1 rfl<|.lb 2 0 rfl<|.p rfl rfl<|.bd h fun x2 hx2 h=>.ix2 hx2 2 rfl fun g3 hA=>?_;subst hA;refine .bd h fun l1 hl1 h=>.stO 0 hx2 hl1 rfl rfl (.s (.s .z)) rfl rfl rfl rfl rfl ?_;refine .ss 53 (wZ hl1)<|.asrt (F':=.res (zM yU 4 (some ⟨g3,0,none⟩) c6 l1):: .res (Box g1 114 [.int .i64 d_p0.Size, .int .i64 d_p0.Part, .slice (some ⟨g3,0,none⟩) l1.length c6, .slice A7 r6.length c7]):: .res (zM eu8 5 A7 c7 r6):: .res (Box g2 114 [.int .i64 0, .int .i64 0, .slice none 0 0, .slice none 0 0]):: .ro (SlL eu8 A3 c3 data)::R) (fun _ w=>by rw [oL hl1]; exact w)<|.b [1,2,3,6] rfl<|.seq<|.region<|.lb 0 1 rfl<|.p rfl rfl<|.bd h fun r7 hr7 h=>.call (zAS hr7) zJv rfl rfl rfl (zl [0,1] 0 rfl) ?_;rintro _ _ ⟨A8,c8,hp1,rfl,rfl⟩;refine .nm 5 rfl<|.p rfl rfl<|.bd h fun l2 hl2 h=>.copyG (E:=eu8) hl2 rfl rfl rfl rfl hp1 (.s .z) (zOJ (.tail _ (.tail _ (.tail _ (.tail _ (.head _)))))) rfl rfl rfl rfl<|.asrt (F':=.res (zM eu8 5 A7 c7 l2):: .res (zM yU 4 (some ⟨g3,0,none⟩) c6 l1):: .res (Box g1 114 [.int .i64 d_p0.Size, .int .i64 d_p0.Part, .slice (some ⟨g3,0,none⟩) l1.length c6, .slice A7 l2.length c7]):: .res (Box g2 114 [.int .i64 0, .int .i64 0, .slice none 0 0, .slice none 0 0]):: .ro (SlL eu8 A3 c3 data)::R) (fun _ w=>by rw [zHX hl2]; exact w)<|.bf [3,6] [0,0,0,0] 1 rfl rfl<|.seq<|.region<|.lb 0 2 rfl<|.sb 0 3 rfl<|.bf [6,7] [0,0,0] 1 rfl rfl<|.asrt (fun _ w=>(w.sl [2] 0 rfl).meltL)<|.asrt (fun _ w=>(w.sl [2] 0 rfl).meltL) ?_;cases h;exact .rt rfl Tryz.results69 (.cell rfl (.tail _ (.tail _ (.head _))) rfl (.tmp rfl .nil)) rfl ⟨(some ⟨g3,0,none⟩),c6,A7,c7,rfl,rfl⟩ (zk 2 3 [1,0] [] 0 rfl)
theorem zSJ:Ent Tryz.prog 19:=en Tryz.func19 (by kernel_rfl)
noncomputable def vC (a_p0:zD) (index:Int) (data:(List Int)):Option (zD × Int):=
 bif (a_p0.phase != 1) then (some (a_p0,46)) else (bnd (rR a_p0.load index data) fun r1=>bif (r1.2==0) then (some ((⟨a_p0.store,a_p0.devices,a_p0.needs,a_p0.phase,r1.1,a_p0.before,a_p0.order⟩:zD),r1.2)) else (some (a_p0,r1.2)))
theorem nX {a_p0 index data A1 c1 A2 c2 A3 c3 A4 c4 A5 c5 A6 c6 gb1 gb2 r} (h:vC a_p0 index data=some r):
    Fun Tryz.prog 19 [.pointer (some ⟨gb1,0,none⟩), .int .i64 index, .slice A6 data.length c6] [.ro (SlL zR A2 c2 a_p0.needs), .ro (SlL yU A3 c3 a_p0.load.Have), .ro (SlL eu8 A4 c4 a_p0.load.Data), .ro (SlL yH A5 c5 a_p0.order), .ro (SlL eu8 A6 c6 data), .res (Box gb1 144 (zI a_p0 gb2 A1 c1 A2 c2 A3 c3 A4 c4 A5 c5)), .res (xK (yL zE) 64 A1 c1 a_p0.devices)] (fun v F=>∃ A7 c7 A8 c8 A9 c9 A10 c10 A11 c11,v= .int .i64 r.2∧F= [.ro (SlL zR A8 c8 r.1.needs), .ro (SlL yU A9 c9 r.1.load.Have), .ro (SlL eu8 A10 c10 r.1.load.Data), .ro (SlL yH A11 c11 r.1.order), .res (Box gb1 144 (zI r.1 gb2 A7 c7 A8 c8 A9 c9 A10 c10 A11 c11)), .res (xK (yL zE) 64 A7 c7 r.1.devices)]):=by
 refine Fun.intro Tryz.func19 rfl rfl rfl fun w R=>?_;refine .ab [0,1,2] rfl<|.seq<|.a 3 rfl<|.lb 3 5 rfl<|.b [0,1,2,13] rfl<|.cb h rfl (fun h=>?_) (fun h=>?_)
 ·refine .abf [6] [0,0,0,0] 1 rfl rfl ?_;cases h;exact .rv rfl rfl ⟨A1,c1,A2,c2,A3,c3,A4,c4,A5,c5,rfl,rfl⟩ (zk 6 4 [2,3,4,5] [4,4] 0 rfl)
 refine .sk<|.pr [0,1,2] rfl<|.a 3 rfl<|.lb 4 5 rfl<|.n 2 rfl<|.bd h fun r1 hr1 h=>.ct 9 [1,2,4] [] 0 (zCi hr1) zXO rfl fun A7 c7 A8 c8=>.n 3 rfl<|.alloc rfl rfl fun g1=>.sb 0 0 rfl<|.bf [0,7,8] [0,0,0,0,0,0,0] 1 rfl rfl<|.seq<|.ab [0,7,8,25] rfl<|.cb h rfl (fun h=>?_) (fun h=>?_)
 ·refine .region<|.p rfl rfl<|.lb 0 0 rfl<|.n 2 rfl<|.sb 4 7 rfl<|.bf [8] [0,1,1,1] 3 rfl rfl<|.ab [6] rfl ?_;cases h;exact .rv rfl rfl ⟨A1,c1,A2,c2,A7,c7,A8,c8,A5,c5,rfl,rfl⟩ (zk 6 4 [4,2,3,5] [0,4] 0 rfl)
 refine .sk<|.pf [8] [] 3 rfl rfl<|.ab [6] rfl ?_;cases h;exact .rv rfl rfl ⟨A1,c1,A2,c2,A3,c3,A4,c4,A5,c5,rfl,rfl⟩ (zk 6 4 [2,3,4,5] [4,4] 0 rfl)
theorem zWu:Ent Tryz.prog 230:=en Tryz.func230 (by kernel_rfl)
noncomputable def rE (s_p0:(List Bool)) (v_p1:Bool):Option Int:=
 bnd (yG (τ:=Int ⊕ Unit) (fun (s1:Int)=>bif decide (s1<(s_p0.length:Int)) then (bnd (elt s_p0 s1) fun x1=>bif (v_p1==x1) then (some (.done (.inl s1))) else (some (.next (IntKind.wrap .i64 (s1+1))))) else (some (.done (.inr ())))) 0) fun o1=>wT o1 fun o2=>some (-1)
theorem fR {s_p0 v_p1 A1 c1 r} (h:rE s_p0 v_p1=some r):
    Fun Tryz.prog 230 [.slice A1 s_p0.length c1, .bool v_p1] [.ro (SlL yU A1 c1 s_p0)] (Val (.int .i64 r)):=by
 refine Fun.intro Tryz.func230 rfl rfl rfl fun w R=>?_;refine .ab [0,1] rfl<|.seq<|.ab [0,1,7,8] rfl<|.bd h fun o1 hl1 h=>.cutJ 1 (fun (o2:Unit) (e2:Unit)=>[]) (fun o2 e2=>[]) rfl rfl (fun o2=>o1= .inr o2) ?_ ?_
 ·refine .block<|.loopQ hl1 0 (fun (s1:Int) (e1:Unit)=>[0,1,7, .s 8 (.int .i64 s1)]) (fun s1 e1=>[]) rfl rfl () (zb rfl) (fun _ w=>w) ?_;rintro s1 e1 st1 hm1 hd1 h1;refine .ae rfl<|.seq<|.cb h1 rfl (fun h1=>?_) (fun h1=>?_)
  ·refine .sk<|.pr [0,1,7,8] rfl<|.seq<|.block<|.ab [0,1,5,7,8] rfl<|.a 3 rfl<|.bd h1 fun x1 hx1 h1=>.ix1 hx1 0 rfl fun b1 ob1=>.ld ob1 0 0 rfl<|.bf [0,1,5,7,8,16] [] 1 rfl rfl<|.cb h1 rfl (fun h1=>?_) (fun h1=>?_)
   ·refine .abf [4] [] 1 rfl rfl ?_;cases h1;cases hd1 _ rfl
    have h:some _=some _:=h;cases h;exact .rv rfl rfl ⟨rfl,rfl⟩ zw
   refine .skip<|.blkN<|.thenN<|.pr [0,1,7,8] rfl<|.region ?_;cases h1;exact .be rfl<|.ag () hm1 rfl zw
  refine .xq rfl ?_;cases h1;cases hd1 _ rfl
  exact .thenN<|.hereI () () rfl trivial (zl [] 1 rfl)
 rintro o2 e2 ho;subst ho;have h:=unR h;refine .ae rfl ?_;cases h;exact .rv rfl rfl ⟨rfl,rfl⟩ zw
theorem zVn:Ent Tryz.prog 159:=en Tryz.func159 (by kernel_rfl)
noncomputable def vL (s_p0:(List Bool)) (v_p1:Bool):Option Bool:=
 bnd (rE s_p0 v_p1) fun r1=>some (decide (r1≥0))
theorem iK {s_p0 v_p1 A1 c1 r} (h:vL s_p0 v_p1=some r):
    Fun Tryz.prog 159 [.slice A1 s_p0.length c1, .bool v_p1] [.ro (SlL yU A1 c1 s_p0)] (Val (.bool r)):=by
 refine Fun.intro Tryz.func159 rfl rfl rfl fun w R=>?_;refine .ab [0,1] rfl<|.a 2 rfl<|.bd h fun r1 hr1 h=>.cv [0] (fR hr1) zWu rfl<|.bf [4] [] 1 rfl rfl ?_;cases h;exact .rv rfl rfl ⟨rfl,rfl⟩ zw
theorem zUN:Ent Tryz.prog 77:=en Tryz.func77 (by kernel_rfl)
noncomputable def wP (d_p0:xF):Option Bool:=
 bnd ((bnd (sJ d_p0) fun r1=>bif r1 then (bnd (vL d_p0.Have false) fun r2=>some (!r2)) else (some false):Option Bool)) fun o1=>some o1
theorem iZ {d_p0 A1 c1 A2 c2 r} (h:wP d_p0=some r):
    Fun Tryz.prog 77 [.agg (sG d_p0 A1 c1 A2 c2).toArray] [.ro (SlL yU A1 c1 d_p0.Have), .ro (SlL eu8 A2 c2 d_p0.Data)] (Val (.bool r)):=by
 refine Fun.intro Tryz.func77 rfl rfl rfl fun w R=>?_;refine .seq<|.region<|.box rfl rfl fun g1=>.b [1] rfl<|.seq<|.bd h fun o1 hj1 h=>.cu 3 [.s 2 (.bool o1)] [] rfl rfl ?_ ?_
 ·refine .region<|.lb 0 0 rfl<|.bd hj1 fun r1 hr1 hj1=>.cv [1,2] (jE hr1) zNw rfl<|.p rfl rfl<|.gs 5 hj1 rfl (fun hj1=>?_) (fun hj1=>?_)
  ·refine .n 1 rfl<|.gOn rfl rfl<|.lb 2 0 rfl<|.gOn rfl rfl<|.bd hj1 fun r2 hr2 hj1=>.cv [1] (iK hr2) zVn rfl ?_;cases hj1;exact .be rfl<|.hU rfl (zl [] 3 rfl)
  cases hj1;exact .be rfl<|.hU rfl (zl [] 3 rfl)
 cases h;exact .rv rfl rfl ⟨rfl,rfl⟩ zw
theorem zXC:Ent Tryz.prog 78:=en Tryz.func78 (by kernel_rfl)
noncomputable def sL (d_p0:xF):Option ((List Int) × Int):=
 bnd (sJ d_p0) fun r1=>bif !r1 then (some ([],1)) else (bnd (wP d_p0) fun r2=>bif !r2 then (some ([],46)) else (bnd (zP d_p0.Data) fun r3=>some (r3,0)))
theorem zDA {d_p0 A1 c1 A2 c2 r} (h:sL d_p0=some r):
    Fun Tryz.prog 78 [.agg (sG d_p0 A1 c1 A2 c2).toArray] [.ro (SlL yU A1 c1 d_p0.Have), .ro (SlL eu8 A2 c2 d_p0.Data)] (fun v F=>∃ A3 c3,v= .tuple #[.slice A3 r.1.length c3, .int .i64 r.2]∧F= [.res (zM eu8 5 A3 c3 r.1)]):=by
 refine Fun.intro Tryz.func78 rfl rfl rfl fun w R=>?_;refine .seq<|.region<|.box rfl rfl fun g1=>.b [1] rfl<|.seq<|.seq<|.region<|.lb 0 0 rfl<|.bd h fun r1 hr1 h=>.cv [1,2] (jE hr1) zNw rfl<|.b [1,6] rfl<|.cb h rfl (fun h=>?_) (fun h=>?_)
 ·refine .abf [2,3] [] 3 rfl rfl<|.asrt (fun _ w=>w.nilL eu8 5) ?_;cases h;exact .rv rfl rfl ⟨none,0,rfl,rfl⟩ zw
 refine .sk<|.pr [1] rfl<|.seq<|.seq<|.region<|.lb 0 0 rfl<|.bd h fun r2 hr2 h=>.cv [1,2] (iZ hr2) zUN rfl<|.b [1,9] rfl<|.cb h rfl (fun h=>?_) (fun h=>?_)
 ·refine .abf [2,3] [] 3 rfl rfl<|.asrt (fun _ w=>w.nilL eu8 5) ?_;cases h;exact .rv rfl rfl ⟨none,0,rfl,rfl⟩ zw
 refine .sk<|.pr [1] rfl<|.a 1 rfl<|.lb 3 0 rfl<|.bd h fun r3 hr3 h=>.cr 4 [2] [] 0 (yM hr3) bO rfl fun A3 c3=>.bf [2,3] [0] 3 rfl rfl ?_;cases h;exact .rv rfl rfl ⟨A3,c3,rfl,rfl⟩ zw
theorem zNS:Ent Tryz.prog 72:=en Tryz.func72 (by kernel_rfl)
noncomputable def wI (r_p0:zU) (n_p1:Int):Option (zU × (List Int)):=
 bnd ((bif r_p0.bad then (some true) else (some (decide (n_p1>(IntKind.wrap .i64 ((r_p0.b.length:Int) - r_p0.at_))))):Option Bool)) fun o1=>bif o1 then (bnd (mkS 1 0 n_p1 n_p1) fun l1=>some ((⟨r_p0.b,r_p0.at_,true⟩:zU),l1)) else (bnd (sub r_p0.b (IntKind.wrap .i64 ((IntKind.wrap .i64 (r_p0.at_+n_p1)) - n_p1)) (IntKind.wrap .i64 (r_p0.at_+n_p1))) fun l2=>some ((⟨r_p0.b,IntKind.wrap .i64 (r_p0.at_+n_p1),r_p0.bad⟩:zU),l2))
theorem rO {r_p0 n_p1 A1 c1 gb1 r} (h:wI r_p0 n_p1=some r):
    Fun Tryz.prog 72 [.pointer (some ⟨gb1,0,none⟩), .int .i64 n_p1] [.ro (SlL eu8 A1 c1 r_p0.b), .res (Box gb1 152 [.slice A1 r_p0.b.length c1, .int .i64 r_p0.at_, .bool r_p0.bad])] (fun v F=>∃ A2 c2 A3 c3,v= .slice A3 r.2.length c3∧F= [.ro (SlL eu8 A2 c2 r.1.b), .ro (SlL eu8 A3 c3 r.2), .res (Box gb1 152 [.slice A2 r.1.b.length c2, .int .i64 r.1.at_, .bool r.1.bad])]):=by
 refine Fun.intro Tryz.func72 rfl rfl rfl fun w R=>?_;refine .ab [0,1] rfl<|.seq<|.seq<|.bd h fun o1 hj1 h=>.cu 0 [0,1, .s 22 (.bool o1)] [] rfl rfl ?_ ?_
 ·refine .regionF mixed (by kernel_rfl)<|.n 3 rfl<|.lb 2 1 rfl<|.p rfl rfl<|.gs 9 hj1 rfl (fun hj1=>?_) (fun hj1=>?_)
  ·cases hj1;exact .beq rfl<|.hU rfl zw
  refine .n 4 rfl<|.gOn rfl rfl<|.lb 0 1 rfl<|.n 4 rfl<|.gOn rfl rfl<|.lb 1 1 rfl ?_;cases hj1;exact .beq rfl<|.hU rfl zw
 refine .cb h rfl (fun h=>?_) (fun h=>?_)
 ·refine .a 3 rfl<|.sb 2 1 rfl<|.b [1] rfl<|.a 1 rfl<|.bd h fun l1 hl1 h=>.mkL (E:=eu8) 0 hl1 rfl rfl rfl rfl rfl rfl rfl rfl rfl rfl fun g1=>.b [4] rfl<|.asrt (fun _ w=>w.meltL) ?_;cases h;exact .rv rfl rfl ⟨A1,c1,(some ⟨g1,0,none⟩),(Int.toNat n_p1),rfl,rfl⟩ (zk 3 2 [2,1] [1] 0 rfl)
 refine .sk<|.pr [0,1] rfl<|.a 3 rfl<|.lb 1 1 rfl<|.n 4 rfl<|.sb 1 1 rfl<|.b [0,1] rfl<|.seq<|.regionF mixed (by kernel_rfl)<|.n 3 rfl<|.lb 0 0 rfl<|.n 3 rfl<|.lb 1 0 rfl<|.n 5 rfl<|.lb 1 0 rfl<|.bd h fun l2 hl2 h=>.sub (E:=(cod eu8)) rfl rfl (.tail _ (.head _)) rfl rfl rfl rfl rfl rfl rfl hl2 fun A2 c2=>.bq [4] rfl ?_;cases h;exact .rv rfl rfl ⟨A1,c1,A2,c2,rfl,rfl⟩ (zk 3 2 [2,1] [1] 0 rfl)
theorem zBT:Ent Tryz.prog 70:=en Tryz.func70 (by kernel_rfl)
noncomputable def yE (r_p0:zU) (n_p1:Int):Option (zU × Int):=
 bnd (wI r_p0 n_p1) fun r1=>bnd (yG (τ:=Int) (fun (s1:Int × Int)=>bif decide (s1.2<(r1.2.length:Int)) then (bnd (elt r1.2 s1.2) fun x1=>some (.next (iOr .i64 (kY .i64 s1.1 8) (IntKind.wrap .i64 x1),IntKind.wrap .i64 (s1.2+1)))) else (some (.done s1.1))) (0,0)) fun o1=>some (r1.1,o1)
theorem xM {r_p0 n_p1 A1 c1 gb1 r} (h:yE r_p0 n_p1=some r):
    Fun Tryz.prog 70 [.pointer (some ⟨gb1,0,none⟩), .int .i64 n_p1] [.ro (SlL eu8 A1 c1 r_p0.b), .res (Box gb1 152 [.slice A1 r_p0.b.length c1, .int .i64 r_p0.at_, .bool r_p0.bad])] (fun v F=>∃ A2 c2,v= .int .i64 r.2∧F= [.ro (SlL eu8 A2 c2 r.1.b), .res (Box gb1 152 [.slice A2 r.1.b.length c2, .int .i64 r.1.at_, .bool r.1.bad])]):=by
 refine Fun.intro Tryz.func70 rfl rfl rfl fun w R=>?_;refine .ab [0,1] rfl<|.ae rfl<|.seq<|.a 2 rfl<|.bd h fun r1 hr1 h=>.ct 4 [1] [1] 0 (rO hr1) zNS rfl fun A2 c2 A3 c3=>.bf [5,10,11,12] [0,0,0] 1 rfl rfl<|.bd h fun o1 hl1 h=>.cu 2 [.s 5 (.int .i64 o1)] [0] rfl rfl ?_ ?_
 ·refine .block<|.loopQ hl1 0 (fun (s1:Int × Int) (e1:Unit)=>[.s 5 (.int .i64 s1.1),10,11, .s 12 (.int .i64 s1.2)]) (fun s1 e1=>[]) rfl rfl () (zb rfl) (fun _ w=>w) ?_;rintro s1 e1 st1 hm1 hd1 h1;refine .ae rfl<|.seq<|.cb h1 rfl (fun h1=>?_) (fun h1=>?_)
  ·refine .sk<|.pr [5,10,11,12] rfl<|.seq<|.block<|.seq<|.region<|.bd h1 fun x1 hx1 h1=>.ix1 hx1 1 rfl fun b1 ob1=>.ld ob1 0 0 rfl<|.bf [5,7,10,11,12] [] 1 rfl rfl<|.region<|.n 6 rfl<|.done<|.blkN<|.thenN<|.pr [5,10,11,12] rfl<|.region ?_;cases h1;exact .be rfl<|.ag () hm1 rfl zw
  refine .xq rfl ?_;cases h1;cases hd1 _ rfl
  exact .thenN<|.hU rfl (zl [0] 1 rfl)
 refine .ab [4] rfl ?_;cases h;exact .rv rfl rfl ⟨A2,c2,rfl,rfl⟩ (zk 2 1 [1] [1] 0 rfl)
theorem zKJ:Ent Tryz.prog 73:=en Tryz.func73 (by kernel_rfl)
noncomputable def xW (r_p0:zU):Option (zU × ByteArray):=
 bnd (yE r_p0 1) fun r1=>bnd (wI r1.1 r1.2) fun r2=>some (r2.1,zCv r2.2)
theorem tF {r_p0 A1 c1 gb1 r} (h:xW r_p0=some r):
    Fun Tryz.prog 73 [.pointer (some ⟨gb1,0,none⟩)] [.ro (SlL eu8 A1 c1 r_p0.b), .res (Box gb1 152 [.slice A1 r_p0.b.length c1, .int .i64 r_p0.at_, .bool r_p0.bad])] (fun v F=>∃ A2 c2,v= .string r.2∧F= [.ro (SlL eu8 A2 c2 r.1.b), .res (Box gb1 152 [.slice A2 r.1.b.length c2, .int .i64 r.1.at_, .bool r.1.bad])]):=by
 refine Fun.intro Tryz.func73 rfl rfl rfl fun w R=>?_;refine .ab [0] rfl<|.a 2 rfl<|.bd h fun r1 hr1 h=>.cr 3 [1] [1] 0 (xM hr1) zBT rfl fun A2 c2=>.bd h fun r2 hr2 h=>.ct 5 [1] [1] 0 (rO hr2) zNS rfl fun A3 c3 A4 c4=>.b2s rfl rfl rfl rfl rfl rfl rfl rfl rfl (fB (E:=eu8) (.tail _ (.head _)))<|.bf [2] [0,1] 3 rfl rfl ?_;cases h;exact .rv rfl rfl ⟨A3,c3,rfl,rfl⟩ (zk 2 1 [1] [1] 0 rfl)
theorem zKr:Ent Tryz.prog 74:=en Tryz.func74 (by kernel_rfl)
noncomputable def xH (r_p0:zU):Option (zU × zK):=
 bnd (yE r_p0 2) fun r1=>bnd (yE r1.1 2) fun r2=>bnd (yE r2.1 2) fun r3=>some (r3.1,(⟨r1.2,r2.2,r3.2⟩:zK))
theorem vV {r_p0 A1 c1 gb1 r} (h:xH r_p0=some r):
    Fun Tryz.prog 74 [.pointer (some ⟨gb1,0,none⟩)] [.ro (SlL eu8 A1 c1 r_p0.b), .res (Box gb1 152 [.slice A1 r_p0.b.length c1, .int .i64 r_p0.at_, .bool r_p0.bad])] (fun v F=>∃ A2 c2,v= .agg #[.int .i64 r.2.Major, .int .i64 r.2.Minor, .int .i64 r.2.Patch]∧F= [.ro (SlL eu8 A2 c2 r.1.b), .res (Box gb1 152 [.slice A2 r.1.b.length c2, .int .i64 r.1.at_, .bool r.1.bad])]):=by
 refine Fun.intro Tryz.func74 rfl rfl rfl fun w R=>?_;refine .seq<|.region<|.alloc rfl rfl fun g1=>.done<|.thenN<|.a 1 rfl<|.bd h fun r1 hr1 h=>.cr 4 [2] [2] 0 (xM hr1) zBT rfl fun A2 c2=>.p rfl rfl<|.bd h fun r2 hr2 h=>.cr 5 [1] [1] 0 (xM hr2) zBT rfl fun A3 c3=>.p rfl rfl<|.bd h fun r3 hr3 h=>.cr 6 [1] [1] 0 (xM hr3) zBT rfl fun A4 c4=>.p rfl rfl<|.sb 0 4 rfl<|.bf [2] [0,0,0] 3 rfl rfl ?_;cases h;exact .rt rfl Tryz.results74 (.cell rfl (.head _) rfl .nil) rfl ⟨A4,c4,rfl,rfl⟩ (zk 2 2 [2] [2] 0 rfl)
theorem zXk:Ent Tryz.prog 20:=en Tryz.func20 (by kernel_rfl)
noncomputable def mM (b_p0:(List Int)):Option (zX × Int):=
 bif decide ((b_p0.length:Int)>8192) then (some ((⟨[], []⟩:zX),3)) else (bif decide ((b_p0.length:Int)<10) then (some ((⟨[], []⟩:zX),4)) else (bnd (sub b_p0 (IntKind.wrap .i64 ((b_p0.length:Int) - 4)) (b_p0.length:Int)) fun l1=>bnd (sub b_p0 0 (IntKind.wrap .i64 ((b_p0.length:Int) - 4))) fun l2=>bnd (yE (⟨l1,0,false⟩:zU) 4) fun r1=>bnd (wE l2) fun r2=>bif ((IntKind.wrap .u32 r1.2) != r2) then (some ((⟨[], []⟩:zX),5)) else (bnd (wI (⟨l2,0,false⟩:zU) 4) fun r3=>bnd (yE r3.1 1) fun r4=>bnd (yG (τ:=Bool × List Int × Int × Bool × List zH) (fun (s1:Bool × Int × List Int × Int × Bool × List zH)=>bnd ((bif decide (s1.2.1>0) then (some (!s1.2.2.2.2.1)) else (some false):Option Bool)) fun o2=>bif o2 then (bnd (xW (⟨s1.2.2.1,s1.2.2.2.1,s1.2.2.2.2.1⟩:zU)) fun r5=>bnd (xH r5.1) fun r6=>bnd (yE r6.1 2) fun r7=>bnd (wI r7.1 r7.2) fun r8=>bnd (zP r8.2) fun r9=>bnd (yE r8.1 4) fun r10=>bnd ((bif s1.1 then (bif !r10.1.bad then (bnd (sub l2 s1.2.2.2.1 r8.1.at_) fun l3=>bnd (wE l3) fun r11=>some ((IntKind.wrap .u32 r10.2)==r11)) else (some false)) else (some false):Option Bool)) fun o3=>bnd (app 64 s1.2.2.2.2.2 [(⟨r5.2,r6.2,r9⟩:zH)]) fun l4=>some (.next (o3,IntKind.wrap .i64 (s1.2.1 - 1),r10.1.b,r10.1.at_,r10.1.bad,l4))) else (some (.done (s1.1,s1.2.2.1,s1.2.2.2.1,s1.2.2.2.2.1,s1.2.2.2.2.2)))) (true,r4.2,r4.1.b,r4.1.at_,r4.1.bad, [])) fun o1=>bnd (yE (⟨o1.2.1,o1.2.2.1,o1.2.2.2.1⟩:zU) 1) fun r12=>bnd (yG (τ:=List Int × Int × Bool × List zT) (fun (s2:Int × List Int × Int × Bool × List zT)=>bnd ((bif decide (s2.1>0) then (some (!s2.2.2.2.1)) else (some false):Option Bool)) fun o5=>bif o5 then (bnd (xW (⟨s2.2.1,s2.2.2.1,s2.2.2.2.1⟩:zU)) fun r13=>bnd (xH r13.1) fun r14=>bnd (xW r14.1) fun r15=>bnd (xH r15.1) fun r16=>bnd (app 80 s2.2.2.2.2 [(⟨r13.2,r14.2,r15.2,r16.2⟩:zT)]) fun l5=>some (.next (IntKind.wrap .i64 (s2.1 - 1),r16.1.b,r16.1.at_,r16.1.bad,l5))) else (some (.done (s2.2.1,s2.2.2.1,s2.2.2.2.1,s2.2.2.2.2)))) (r12.2,r12.1.b,r12.1.at_,r12.1.bad, [])) fun o4=>bnd ((bif !((zCv r3.2).toList==((⟨#[66,77,67,70]⟩):ByteArray).toList) then (some true) else (bif o4.2.2.1 then (some true) else (some (o4.2.1 != (l2.length:Int)))):Option Bool)) fun o6=>bif o6 then (some ((⟨[], []⟩:zX),6)) else (bif !o1.1 then (some ((⟨[], []⟩:zX),5)) else (bnd (oR (⟨o1.2.2.2.2,o4.2.2.2⟩:zX)) fun r17=>bif (r17 != 0) then (some ((⟨[], []⟩:zX),r17)) else (some ((⟨o1.2.2.2.2,o4.2.2.2⟩:zX),0)))))))
end Go.Proofs.YtplchdlgdjcojaaGreatDoor
end
section
namespace Go.Proofs.YtplchdlgdjcojaaGreatDoor
open Go
set_option linter.unusedVariables false
set_option maxHeartbeats 4000000
set_option maxRecDepth 4000
theorem zEm {b_p0 A1 c1 r} (h:mM b_p0=some r):
    Fun Tryz.prog 20 [.slice A1 b_p0.length c1] [.ro (SlL eu8 A1 c1 b_p0)] (fun v F=>∃ A2 c2 A3 c3,v= .tuple #[.agg #[.slice A2 r.1.Images.length c2, .slice A3 r.1.Needs.length c3], .int .i64 r.2]∧F= [.ro (Sl (yL xC) A2 c2 r.1.Images), .ro (SlL zR A3 c3 r.1.Needs)]):=by
 refine Fun.intro Tryz.func20 rfl rfl rfl fun w R=>?_;refine .seq<|.region<|.alloc rfl rfl fun g1=>.b [0,2] rfl<|.seq<|.ab [0,2,19] rfl<|.cb h rfl (fun h=>?_) (fun h=>?_)
 ·refine .a 1 rfl<|.sb 0 0 rfl<|.bf [2,3] [0] 1 rfl rfl<|.asrt (fun _ w=>w.nilSl (yL xC))<|.asrt (fun _ w=>w.nilSl (cod zR)) ?_;cases h;exact .rt rfl Tryz.results20 (.cell rfl (.tail _ (.tail _ (.head _))) rfl (.tmp rfl .nil)) rfl ⟨none,0,none,0,rfl,rfl⟩ (zk 2 3 [1,0] [] 0 rfl)
 refine .sk<|.pr [0,2] rfl<|.seq<|.ab [0,2,23] rfl<|.cb h rfl (fun h=>?_) (fun h=>?_)
 ·refine .a 1 rfl<|.sb 0 0 rfl<|.bf [2,3] [0] 1 rfl rfl<|.asrt (fun _ w=>w.nilSl (yL xC))<|.asrt (fun _ w=>w.nilSl (cod zR)) ?_;cases h;exact .rt rfl Tryz.results20 (.cell rfl (.tail _ (.tail _ (.head _))) rfl (.tmp rfl .nil)) rfl ⟨none,0,none,0,rfl,rfl⟩ (zk 2 3 [1,0] [] 0 rfl)
 refine .sk<|.pr [0,2] rfl<|.a 4 rfl<|.bd h fun l1 hl1 h=>.sub (E:=(cod eu8)) rfl rfl (.tail _ (.head _)) rfl rfl rfl rfl rfl rfl rfl hl1 fun A2 c2=>.p rfl rfl<|.box rfl rfl fun g2=>.b [0,2,4] rfl<|.a 4 rfl<|.bd h fun l2 hl2 h=>.sub (E:=(cod eu8)) rfl rfl (zm 3 rfl) rfl rfl rfl rfl rfl rfl rfl hl2 fun A3 c3=>.bf [2,4,5] [0,0,0,0] 1 rfl rfl<|.seq<|.a 1 rfl<|.bd h fun r1 hr1 h=>.cr 5 [2] [1] 0 (xM hr1) zBT rfl fun A4 c4=>.n 2 rfl<|.bd h fun r2 hr2 h=>.cv [2] (nB hr2) zOm rfl<|.bf [2,5,42] [2] 3 rfl rfl<|.cb h rfl (fun h=>?_) (fun h=>?_)
 ·refine .a 1 rfl<|.sb 0 1 rfl<|.bf [2,3] [0] 1 rfl rfl<|.asrt (fun _ w=>w.nilSl (yL xC))<|.asrt (fun _ w=>w.nilSl (cod zR)) ?_;cases h;exact .rt rfl Tryz.results20 (.cell rfl (.tail _ (.tail _ (.head _))) rfl (.tmp rfl .nil)) rfl ⟨none,0,none,0,rfl,rfl⟩ (zk 2 3 [1,0] [] 0 rfl)
 refine .sk<|.pr [2,5] rfl<|.a 2 rfl<|.box rfl rfl fun g3=>.b [2,5,6] rfl<|.seq<|.region<|.alloc rfl rfl fun g4=>.done<|.thenN<|.ae rfl<|.a 1 rfl<|.bd h fun r3 hr3 h=>.ct 6 [2] [1] 0 (rO hr3) zNS rfl fun A5 c5 A6 c6=>.b2s rfl rfl rfl rfl rfl rfl rfl rfl rfl (fB (E:=eu8) (.tail _ (.head _)))<|.bf [2,5,6,7,8,9] [0] 1 rfl rfl<|.seq<|.a 1 rfl<|.bd h fun r4 hr4 h=>.cr 6 [1] [1] 0 (xM hr4) zBT rfl fun A7 c7=>.bf [2,5,6,7,8,9,10] [0,0] 1 rfl rfl<|.asrt (fun _ w=>w.nilC (yL xC) 58)<|.bd h fun o1 hl1 h=>.cutK 4 (fun (e2:Option Addr × Nat × Option Addr × Nat)=>[2,5,6,7, .s 8 (.bool o1.1),9]) (fun e2=>[.res (xK (yL xC) 58 e2.2.2.1 e2.2.2.2 o1.2.2.2.2), .ro (SlL eu8 e2.1 e2.2.1 o1.2.1), .res (Box g3 152 [.slice e2.1 o1.2.1.length e2.2.1, .int .i64 o1.2.2.1, .bool o1.2.2.2.1]), .res (Box g4 46 [.slice e2.2.2.1 o1.2.2.2.2.length e2.2.2.2, .slice none 0 0])]) rfl rfl ?_ ?_
 ·refine .block<|.loopQ hl1 4 (fun (s1:Bool × Int × List Int × Int × Bool × List zH) (e1:Option Addr × Nat × Option Addr × Nat)=>[2,5,6,7, .s 8 (.bool s1.1),9, .s 10 (.int .i64 s1.2.1)]) (fun s1 e1=>[.res (xK (yL xC) 58 e1.2.2.1 e1.2.2.2 s1.2.2.2.2.2), .ro (SlL eu8 e1.1 e1.2.1 s1.2.2.1), .res (Box g3 152 [.slice e1.1 s1.2.2.1.length e1.2.1, .int .i64 s1.2.2.2.1, .bool s1.2.2.2.2.1]), .res (Box g4 46 [.slice e1.2.2.1 s1.2.2.2.2.2.length e1.2.2.2, .slice none 0 0])]) rfl rfl (A7,c7,none,0) (zb rfl) (fun _ w=>w) ?_;rintro s1 ⟨A8,c8,A9,c9⟩ st1 hm1 hd1 h1;refine .seq<|.seq<|.bd h1 fun o2 hj1 h1=>.cu 0 [2,5,6,7,8,9,10, .s 61 (.bool o2)] [] rfl rfl ?_ ?_
  ·refine .region<|.n 3 rfl<|.gs 55 hj1 rfl (fun hj1=>?_) (fun hj1=>?_)
   ·refine .n 3 rfl<|.gOn rfl rfl<|.lb 2 2 rfl ?_;cases hj1;exact .be rfl<|.hU rfl zw
   cases hj1;exact .be rfl<|.hU rfl zw
  refine .cb h1 rfl (fun h1=>?_) (fun h1=>?_)
  ·refine .sk<|.pr [2,5,6,7,8,9,10] rfl<|.seq<|.block<|.a 3 rfl<|.lb 1 2 rfl<|.b [2,5,6,7,8,9,10,11] rfl<|.a 1 rfl<|.bd h1 fun r5 hr5 h1=>.cr 7 [2] [2] 0 (tF hr5) zKJ rfl fun A12 c12=>.p rfl rfl<|.bd h1 fun r6 hr6 h1=>.cr 8 [1] [1] 0 (vV hr6) zKr rfl fun A13 c13=>.p rfl rfl<|.alloc rfl rfl fun g5=>.sb 0 0 rfl<|.bf [2,5,6,7,8,9,10,11,12] [0,0,0,1] 2 rfl rfl<|.a 2 rfl<|.bd h1 fun r7 hr7 h1=>.cr 8 [2] [2] 0 (xM hr7) zBT rfl fun A14 c14=>.bd h1 fun r8 hr8 h1=>.ct 10 [1] [1] 0 (rO hr8) zNS rfl fun A15 c15 A16 c16=>.bd h1 fun r9 hr9 h1=>.cr 11 [1] [] 0 (yM hr9) bO rfl fun A17 c17=>.p rfl rfl<|.sb 4 5 rfl<|.bf [2,5,6,7,8,9,10,11,12] [0,0,0,1] 3 rfl rfl<|.a 3 rfl<|.lb 1 3 rfl<|.b [2,5,6,7,8,9,10,11,12,13] rfl<|.a 1 rfl<|.bd h1 fun r10 hr10 h1=>.cr 9 [3] [3] 0 (xM hr10) zBT rfl fun A18 c18=>.bf [2,5,6,7,8,9,10,11,12,13,14] [0,0,0,0] 1 rfl rfl<|.seq<|.bd h1 fun o3 hj2 h1=>.cu 0 [2,5,6,7, .s 8 (.bool o3),9,10,12] [] rfl rfl ?_ ?_
   ·refine .region<|.n 2 rfl<|.gs 87 hj2 rfl (fun hj2=>?_) (fun hj2=>?_)
    ·refine .n 3 rfl<|.gOn rfl rfl<|.lb 2 1 rfl<|.n 3 rfl<|.gs 94 hj2 rfl (fun hj2=>?_) (fun hj2=>?_)
     ·refine .n 4 rfl<|.gOn rfl rfl<|.bd hj2 fun l3 hl3 hj2=>.sub (E:=(cod eu8)) rfl rfl (zm 6 rfl) rfl rfl rfl rfl rfl rfl rfl hl3 fun A19 c19=>.gOn rfl rfl<|.bd hj2 fun r11 hr11 hj2=>.cv [0] (nB hr11) zOm rfl ?_;cases hj2;exact .be rfl<|.hU rfl (zl [] 1 rfl)
     cases hj2;exact .be rfl<|.hU rfl zw
    cases hj2;exact .be rfl<|.hU rfl zw
   refine .region<|.p rfl rfl<|.lb 0 5 rfl<|.lb 0 2 rfl<|.bS rfl fun g6=>.bd h1 fun l4 hl4 h1=>.asrt (fun _ w=>(w.sl [4] 0 rfl).meltL)<|.appC (E:=(yL xC)) hl4 rfl rfl rfl (.s (.s (.s (.s (.s .z))))) rfl rfl rfl rfl rfl rfl rfl rfl (zDR (ls:=xC) [((⟨r5.2,r6.2,r9⟩:zH),((A17,c17),()))] (.tail _ (.head _)) rfl rfl rfl ⟨(.head _),trivial⟩) rfl rfl fun A20 c20=>.p rfl rfl<|.sb 0 6 rfl<|.done<|.blkN<|.thenN<|.pf [2,5,6,7,8,9,10] [0,0,2,2] 3 rfl rfl<|.region ?_;cases h1;exact .be rfl<|.ag (A18,c18,A20,c20) hm1 rfl (zl [1,1,1] 0 rfl)
  refine .xq rfl ?_;cases h1;cases hd1 _ rfl
  exact .thenN<|.hE (A8,c8,A9,c9) rfl zw
 rintro ⟨A10,c10,A11,c11⟩;refine .seq<|.a 1 rfl<|.bd h fun r12 hr12 h=>.cr 7 [2] [2] 0 (xM hr12) zBT rfl fun A21 c21=>.bf [2,5,6,7,8,9,15] [0,0,0] 1 rfl rfl<|.asrt (fun _ w=>w.nilL zR 123)<|.bd h fun o4 hl2 h=>.cutK 5 (fun (e6:Option Addr × Nat × Option Addr × Nat)=>[2,5,6,7,8,9]) (fun e6=>[.res (zM zR 123 e6.2.2.1 e6.2.2.2 o4.2.2.2), .ro (SlL eu8 e6.1 e6.2.1 o4.1), .res (Box g3 152 [.slice e6.1 o4.1.length e6.2.1, .int .i64 o4.2.1, .bool o4.2.2.1]),3, .res (Box g4 46 [.slice A11 o1.2.2.2.2.length c11, .slice e6.2.2.1 o4.2.2.2.length e6.2.2.2])]) rfl rfl ?_ ?_
 ·refine .block<|.loopQ hl2 5 (fun (s2:Int × List Int × Int × Bool × List zT) (e5:Option Addr × Nat × Option Addr × Nat)=>[2,5,6,7,8,9, .s 15 (.int .i64 s2.1)]) (fun s2 e5=>[.res (zM zR 123 e5.2.2.1 e5.2.2.2 s2.2.2.2.2), .ro (SlL eu8 e5.1 e5.2.1 s2.2.1), .res (Box g3 152 [.slice e5.1 s2.2.1.length e5.2.1, .int .i64 s2.2.2.1, .bool s2.2.2.2.1]),3, .res (Box g4 46 [.slice A11 o1.2.2.2.2.length c11, .slice e5.2.2.1 s2.2.2.2.2.length e5.2.2.2])]) rfl rfl (A21,c21,none,0) (zb rfl) (fun _ w=>w) ?_;rintro s2 ⟨A22,c22,A23,c23⟩ st2 hm2 hd2 h2;refine .seq<|.seq<|.bd h2 fun o5 hj3 h2=>.cu 0 [2,5,6,7,8,9,15, .s 119 (.bool o5)] [] rfl rfl ?_ ?_
  ·refine .region<|.n 3 rfl<|.gs 113 hj3 rfl (fun hj3=>?_) (fun hj3=>?_)
   ·refine .n 3 rfl<|.gOn rfl rfl<|.lb 2 2 rfl ?_;cases hj3;exact .be rfl<|.hU rfl zw
   cases hj3;exact .be rfl<|.hU rfl zw
  refine .cb h2 rfl (fun h2=>?_) (fun h2=>?_)
  ·refine .sk<|.pr [2,5,6,7,8,9,15] rfl<|.seq<|.block<|.bd h2 fun r13 hr13 h2=>.bd h2 fun r14 hr14 h2=>.bd h2 fun r15 hr15 h2=>.bd h2 fun r16 hr16 h2=>.bd h2 fun l5 hl5 h2=>.regionX (iN [0,8,16,24,32] (.alt (iN [7] (iN [15] (iN [23] (iN [31] (iN [39,40] (iN [47] (iN [51,52] (iN [59] .nil)))))))) (iN [15] (.alt (iN [7] (iN [23] (iN [31] (iN [39,40] (iN [47] (iN [51,52] (iN [59] .nil))))))) (iN [23] (.alt (iN [7] (iN [31] (iN [39,40] (iN [47] (iN [51,52] (iN [59] .nil)))))) (iN [31] (.alt (iN [7] (iN [39,40] (iN [47] (iN [51,52] (iN [59] .nil))))) (iN [39,40] (.alt (iN [7] (iN [47] (iN [51,52] (iN [59] .nil)))) (iN [47] (iN [7] (iN [51,52] (iN [59] .nil)))))))))))))) _ mixed (by kernel_rfl) (zl [1,2] 3 rfl)<|.shareK (Y:=?Ynd1_0) 3 (fun (e:Nat × Option Addr × Nat × Option Addr × Nat × Option Addr × Nat × Option Addr × Nat)=>[2,5,6,7,8,9,15, .s 123 (.slice A23 s2.2.2.2.2.length c23), .s 125 (.string r13.2), .s 127 (.agg #[.int .i64 r14.2.Major, .int .i64 r14.2.Minor, .int .i64 r14.2.Patch]), .s 129 (.string r15.2), .s 131 (.agg #[.int .i64 r16.2.Major, .int .i64 r16.2.Minor, .int .i64 r16.2.Patch]), .s 133 (.slice (some ⟨e.1,0,none⟩) 1 1)]) (fun e=>[.res (Box e.1 123 [.string r13.2, .int .i64 r14.2.Major, .int .i64 r14.2.Minor, .int .i64 r14.2.Patch, .string r15.2, .int .i64 r16.2.Major, .int .i64 r16.2.Minor, .int .i64 r16.2.Patch]), .ro (SlL eu8 e.2.1 e.2.2.1 r16.1.b), .res (Box g3 152 [.slice e.2.1 r16.1.b.length e.2.2.1, .int .i64 r16.1.at_, .bool r16.1.bad]), .ro (SlL eu8 e.2.2.2.1 e.2.2.2.2.1 r15.1.b), .ro (SlL eu8 e.2.2.2.2.2.1 e.2.2.2.2.2.2.1 r14.1.b), .ro (SlL eu8 e.2.2.2.2.2.2.2.1 e.2.2.2.2.2.2.2.2 r13.1.b),0,1]) rfl rfl (fun hnd1_0=>?mnd1_0) ?tnd1_0
   case mnd1_0=>
    refine .shareK (Y:=?Ynd1_1) 3 (fun (e:Option Addr × Nat × Option Addr × Nat × Option Addr × Nat × Option Addr × Nat)=>[2,5,6,7,8,9,15, .s 123 (.slice A23 s2.2.2.2.2.length c23), .s 125 (.string r13.2), .s 127 (.agg #[.int .i64 r14.2.Major, .int .i64 r14.2.Minor, .int .i64 r14.2.Patch]), .s 129 (.string r15.2), .s 131 (.agg #[.int .i64 r16.2.Major, .int .i64 r16.2.Minor, .int .i64 r16.2.Patch]), .s 132 (.agg #[.string r13.2, .int .i64 r14.2.Major, .int .i64 r14.2.Minor, .int .i64 r14.2.Patch, .string r15.2, .int .i64 r16.2.Major, .int .i64 r16.2.Minor, .int .i64 r16.2.Patch])]) (fun e=>[.ro (SlL eu8 e.1 e.2.1 r16.1.b), .res (Box g3 152 [.slice e.1 r16.1.b.length e.2.1, .int .i64 r16.1.at_, .bool r16.1.bad]), .ro (SlL eu8 e.2.2.1 e.2.2.2.1 r15.1.b), .ro (SlL eu8 e.2.2.2.2.1 e.2.2.2.2.2.1 r14.1.b), .ro (SlL eu8 e.2.2.2.2.2.2.1 e.2.2.2.2.2.2.2 r13.1.b),0,1]) rfl rfl (fun hnd1_1=>?mnd1_1) ?tnd1_1
    case mnd1_1=>
     refine .shareK (Y:=?Ynd1_2) 3 (fun (e:Option Addr × Nat × Option Addr × Nat × Option Addr × Nat)=>[2,5,6,7,8,9,15, .s 123 (.slice A23 s2.2.2.2.2.length c23), .s 125 (.string r13.2), .s 127 (.agg #[.int .i64 r14.2.Major, .int .i64 r14.2.Minor, .int .i64 r14.2.Patch]), .s 129 (.string r15.2), .s 130 (.pointer (some ⟨g3,0,none⟩))]) (fun e=>[.ro (SlL eu8 e.1 e.2.1 r15.1.b), .res (Box g3 152 [.slice e.1 r15.1.b.length e.2.1, .int .i64 r15.1.at_, .bool r15.1.bad]), .ro (SlL eu8 e.2.2.1 e.2.2.2.1 r14.1.b), .ro (SlL eu8 e.2.2.2.2.1 e.2.2.2.2.2 r13.1.b),0,1]) rfl rfl (fun hnd1_2=>?mnd1_2) ?tnd1_2
     case mnd1_2=>
      refine .shareK (Y:=?Ynd1_3) 3 (fun (e:Option Addr × Nat × Option Addr × Nat)=>[2,5,6,7,8,9,15, .s 123 (.slice A23 s2.2.2.2.2.length c23), .s 125 (.string r13.2), .s 127 (.agg #[.int .i64 r14.2.Major, .int .i64 r14.2.Minor, .int .i64 r14.2.Patch]), .s 128 (.pointer (some ⟨g3,0,none⟩)), .s 130 (.pointer (some ⟨g3,0,none⟩))]) (fun e=>[.ro (SlL eu8 e.1 e.2.1 r14.1.b), .res (Box g3 152 [.slice e.1 r14.1.b.length e.2.1, .int .i64 r14.1.at_, .bool r14.1.bad]), .ro (SlL eu8 e.2.2.1 e.2.2.2 r13.1.b),0,1]) rfl rfl (fun hnd1_3=>?mnd1_3) ?tnd1_3
      case mnd1_3=>
       refine .shareK (Y:=?Ynd1_4) 3 (fun (e:Option Addr × Nat)=>[2,5,6,7,8,9,15, .s 123 (.slice A23 s2.2.2.2.2.length c23), .s 125 (.string r13.2), .s 126 (.pointer (some ⟨g3,0,none⟩)), .s 128 (.pointer (some ⟨g3,0,none⟩)), .s 130 (.pointer (some ⟨g3,0,none⟩))]) (fun e=>[.ro (SlL eu8 e.1 e.2 r13.1.b), .res (Box g3 152 [.slice e.1 r13.1.b.length e.2, .int .i64 r13.1.at_, .bool r13.1.bad]),0,1]) rfl rfl (fun hnd1_4=>?mnd1_4) ?tnd1_4
       case mnd1_4=>
        refine .yn 5 rfl<|.xalt ?_ ?_
        ·refine .xef<|.lb 1 4 rfl<|.xk (zl [1,2] 3 rfl)<|.xef<|.cr 8 [2] [2] 0 (tF hr13) zKJ rfl fun A26 c26=>.xk (zl [3,3] 4 rfl) ?_;refine hnd1_4 _ _ (A26,c26) ?_ ?_
         ·exact ⟨rfl,rfl,rfl,rfl,rfl,rfl,rfl,rfl,rfl,rfl,rfl,rfl,trivial⟩
         exact fun _ w=>w
        refine .xef<|.cr 8 [2] [2] 0 (tF hr13) zKJ rfl fun A26 c26=>.xk (zl [3,3] 4 rfl)<|.xalt ?_ ?_
        ·refine .xef<|.lb 1 5 rfl<|.xk (zl [3,3] 4 rfl) ?_;refine hnd1_4 _ _ (A26,c26) ?_ ?_
         ·exact ⟨rfl,rfl,rfl,rfl,rfl,rfl,rfl,rfl,rfl,rfl,rfl,rfl,trivial⟩
         exact fun _ w=>w
        refine .xef<|.cr 9 [1] [1] 0 (vV hr14) zKr rfl fun A27 c27=>.xk (zl [4,4] 5 rfl)<|.xalt ?_ ?_
        ·refine .xef<|.lb 1 6 rfl<|.xk (zl [4,4] 5 rfl) ?_;refine hnd1_3 _ _ (A27,c27,A26,c26) ?_ ?_
         ·exact ⟨rfl,rfl,rfl,rfl,rfl,rfl,rfl,rfl,rfl,rfl,rfl,rfl,trivial⟩
         exact fun _ w=>w
        refine .xef<|.cr 10 [1] [1] 0 (tF hr15) zKJ rfl fun A28 c28=>.xk (zl [5,5] 6 rfl)<|.xalt ?_ ?_
        ·refine .xef<|.lb 1 7 rfl<|.xk (zl [5,5] 6 rfl) ?_;refine hnd1_2 _ _ (A28,c28,A27,c27,A26,c26) ?_ ?_
         ·exact ⟨rfl,rfl,rfl,rfl,rfl,rfl,rfl,rfl,rfl,rfl,rfl,rfl,trivial⟩
         exact fun _ w=>w
        refine .xef<|.cr 11 [1] [1] 0 (vV hr16) zKr rfl fun A29 c29=>.xk (zl [6,6] 7 rfl)<|.yn 1 rfl<|.xalt ?_ ?_
        ·refine .xef<|.lb 1 8 rfl<|.xk (zl [6,6] 7 rfl) ?_;refine hnd1_1 _ _ (A29,c29,A28,c28,A27,c27,A26,c26) ?_ ?_
         ·exact ⟨rfl,rfl,rfl,rfl,rfl,rfl,rfl,rfl,rfl,rfl,rfl,rfl,rfl,trivial⟩
         exact fun _ w=>w
        refine .xef<|.bS rfl fun g7=>.xk (zl [7,7] 8 rfl)<|.xef<|.lb 1 9 rfl<|.xk (zl [7,7] 8 rfl) ?_;refine hnd1_0 _ _ (g7,A29,c29,A28,c28,A27,c27,A26,c26) ?_ ?_
        ·exact ⟨rfl,rfl,rfl,rfl,rfl,rfl,rfl,rfl,rfl,rfl,rfl,rfl,rfl,trivial⟩
        exact fun _ w=>w
       case tnd1_4=>
        rintro ⟨A26,c26⟩;refine .nm 8 rfl<|.xef<|.cr 9 [1] [1] 0 (vV hr14) zKr rfl fun A27 c27=>.xk (zl [4,4] 5 rfl) ?_;refine hnd1_3 _ _ (A27,c27,A26,c26) ?_ ?_
        ·exact ⟨rfl,rfl,rfl,rfl,rfl,rfl,rfl,rfl,rfl,rfl,rfl,rfl,trivial⟩
        exact fun _ w=>w
      case tnd1_3=>
       rintro ⟨A27,c27,A26,c26⟩;refine .nm 9 rfl<|.xef<|.cr 10 [1] [1] 0 (tF hr15) zKJ rfl fun A28 c28=>.xk (zl [5,5] 6 rfl) ?_;refine hnd1_2 _ _ (A28,c28,A27,c27,A26,c26) ?_ ?_
       ·exact ⟨rfl,rfl,rfl,rfl,rfl,rfl,rfl,rfl,rfl,rfl,rfl,rfl,trivial⟩
       exact fun _ w=>w
     case tnd1_2=>
      rintro ⟨A28,c28,A27,c27,A26,c26⟩;refine .nm 10 rfl<|.xef<|.cr 11 [1] [1] 0 (vV hr16) zKr rfl fun A29 c29=>.xk (zl [6,6] 7 rfl)<|.yn 1 rfl ?_;refine hnd1_1 _ _ (A29,c29,A28,c28,A27,c27,A26,c26) ?_ ?_
      ·exact ⟨rfl,rfl,rfl,rfl,rfl,rfl,rfl,rfl,rfl,rfl,rfl,rfl,rfl,trivial⟩
      exact fun _ w=>w
    case tnd1_1=>
     rintro ⟨A29,c29,A28,c28,A27,c27,A26,c26⟩;refine .nm 11 rfl<|.xef<|.bS rfl fun g7=>.xk (zl [7,7] 8 rfl) ?_;refine hnd1_0 _ _ (g7,A29,c29,A28,c28,A27,c27,A26,c26) ?_ ?_
     ·exact ⟨rfl,rfl,rfl,rfl,rfl,rfl,rfl,rfl,rfl,rfl,rfl,rfl,rfl,trivial⟩
     exact fun _ w=>w
   case tnd1_0=>
    rintro ⟨g7,A29,c29,A28,c28,A27,c27,A26,c26⟩;refine .nm 12 rfl<|.xef<|.app (E:=zR) hl5 rfl rfl rfl (.s (.s (.s (.s (.s (.s .z)))))) rfl rfl rfl rfl rfl rfl rfl rfl (eO (.head _) rfl rfl) rfl rfl fun A30 c30=>.xk (zl [7,7] 8 rfl)<|.yn 1 rfl<|.xef<|.sb 1 9 rfl<|.xk (zl [] 8 rfl)<|.xdone<|.blkN<|.thenN<|.pf [2,5,6,7,8,9,15] [0,0,1,1] 5 rfl rfl<|.region ?_;cases h2;exact .be rfl<|.ag (A29,c29,A30,c30) hm2 rfl (zl [1,1,1,1] 0 rfl)
  refine .xq rfl ?_;cases h2;cases hd2 _ rfl
  exact .thenN<|.hE (A22,c22,A23,c23) rfl zw
 rintro ⟨A24,c24,A25,c25⟩;refine .seq<|.seq<|.bd h fun o6 hj4 h=>.cu 6 [2,7,8, .s 152 (.bool o6)] [0,3,4] rfl rfl ?_ ?_
 ·refine .region<|.n 3 rfl<|.gs 138 hj4 rfl (fun hj4=>?_) (fun hj4=>?_)
  ·cases hj4;exact .be rfl<|.hU rfl (zl [0,2,2] 3 rfl)
  refine .n 3 rfl<|.gOn rfl rfl<|.lb 2 2 rfl<|.n 2 rfl<|.gs 144 hj4 rfl (fun hj4=>?_) (fun hj4=>?_)
  ·cases hj4;exact .be rfl<|.hU rfl (zl [0,2,2] 3 rfl)
  refine .n 3 rfl<|.gOn rfl rfl<|.lb 1 2 rfl ?_;cases hj4;exact .be rfl<|.hU rfl (zl [0,2,2] 3 rfl)
 refine .cb h rfl (fun h=>?_) (fun h=>?_)
 ·refine .a 1 rfl<|.sb 0 3 rfl<|.bf [2,3] [0] 3 rfl rfl<|.asrt (fun _ w=>w.nilSl (yL xC))<|.asrt (fun _ w=>w.nilSl (cod zR)) ?_;cases h;exact .rt rfl Tryz.results20 (.cell rfl (.tail _ (.tail _ (.head _))) rfl (.tmp rfl .nil)) rfl ⟨none,0,none,0,rfl,rfl⟩ (zk 2 3 [1,0] [] 0 rfl)
 refine .sk<|.pr [2,7,8] rfl<|.seq<|.ab [2,7,155] rfl<|.cb h rfl (fun h=>?_) (fun h=>?_)
 ·refine .a 1 rfl<|.sb 0 3 rfl<|.bf [2,3] [0] 3 rfl rfl<|.asrt (fun _ w=>w.nilSl (yL xC))<|.asrt (fun _ w=>w.nilSl (cod zR)) ?_;cases h;exact .rt rfl Tryz.results20 (.cell rfl (.tail _ (.tail _ (.head _))) rfl (.tmp rfl .nil)) rfl ⟨none,0,none,0,rfl,rfl⟩ (zk 2 3 [1,0] [] 0 rfl)
 refine .sk<|.pr [2,7] rfl<|.seq<|.seq<|.region<|.lb 0 2 rfl<|.asrt (fun _ w=>(w.sl [1] 0 rfl).meltC)<|.asrt (fun _ w=>(w.sl [1] 0 rfl).meltL)<|.bd h fun r17 hr17 h=>.cv [1,0] (zAw hr17) zUP rfl<|.b [2,7,16] rfl<|.ab [2,7,16,160] rfl<|.cb h rfl (fun h=>?_) (fun h=>?_)
 ·refine .a 2 rfl<|.sb 0 3 rfl<|.bf [2,3] [0] 3 rfl rfl<|.asrt (fun _ w=>w.nilSl (yL xC))<|.asrt (fun _ w=>w.nilSl (cod zR)) ?_;cases h;exact .rt rfl Tryz.results20 (.cell rfl (.tail _ (.tail _ (.head _))) rfl (.tmp rfl .nil)) rfl ⟨none,0,none,0,rfl,rfl⟩ (zk 2 3 [1,0] [] 0 rfl)
 refine .sk<|.pr [2,7] rfl<|.seq<|.region<|.lb 0 2 rfl<|.sb 0 3 rfl<|.bf [2,3] [0,0,0] 1 rfl rfl ?_;cases h;exact .rt rfl Tryz.results20 (.cell rfl (.head _) rfl (.tmp rfl .nil)) rfl ⟨A11,c11,A25,c25,rfl,rfl⟩ (zk 2 3 [2,1] [] 0 rfl)
theorem zUT:Ent Tryz.prog 91:=en Tryz.func91 (by kernel_rfl)
noncomputable def oU (d_p0:zB):Option zK:=
 bnd (uY d_p0) fun r1=>bif !r1 then (some (⟨0,0,0⟩:zK)) else (bnd (elt [d_p0.Slots.e0,d_p0.Slots.e1] d_p0.Running) fun x1=>some x1.Image.Version)
theorem aA {d_p0 A1 c1 A2 c2 r} (h:oU d_p0=some r):
    Fun Tryz.prog 91 [.agg (zN d_p0 A1 c1 A2 c2).toArray] [.ro (SlL eu8 A1 c1 d_p0.Slots.e0.Image.Data), .ro (SlL eu8 A2 c2 d_p0.Slots.e1.Image.Data)] (Val (.agg #[.int .i64 r.Major, .int .i64 r.Minor, .int .i64 r.Patch])):=by
 refine Fun.intro Tryz.func91 rfl rfl rfl fun w R=>?_;refine .seq<|.region<|.box rfl rfl fun g1=>.alloc rfl rfl fun g2=>.b [1,2] rfl<|.seq<|.seq<|.region<|.lb 0 1 rfl<|.bd h fun r1 hr1 h=>.cv [2,3] (pB hr1) zFH rfl<|.b [1,2,5] rfl<|.cb h rfl (fun h=>?_) (fun h=>?_)
 ·refine .a 1 rfl<|.sb 0 0 rfl<|.bf [2] [0] 3 rfl rfl ?_;cases h;exact .rt rfl Tryz.results91 (.cell rfl (.head _) rfl .nil) rfl ⟨rfl,rfl⟩ (zl [] 1 rfl)
 refine .sk<|.pr [1,2] rfl<|.a 1 rfl<|.lb 14 1 rfl<|.p rfl rfl<|.bd h fun x1 hx1 h=>.ixP (sz:=6) hx1 rfl rfl rfl rfl rfl rfl rfl rfl<|.n 2 rfl<|.ldP (ls:=oQ) 1 [.string d_p0.Name] [.int .i64 d_p0.Active, .int .i64 d_p0.Running, .bool d_p0.Trial] [(d_p0.Slots.e0,((A1,c1),())),(d_p0.Slots.e1,((A2,c2),()))] (fun ex=>.agg #[.int .i64 x1.Image.Version.Major, .int .i64 x1.Image.Version.Minor, .int .i64 x1.Image.Version.Patch]) hx1 rfl rfl (.tail _ (.head _)) rfl rfl rfl ⟨(zm 2 rfl),(zm 3 rfl),trivial⟩ rfl (fun _=>rfl) fun ex1=>?_;obtain ⟨⟨A3,c3⟩,_⟩:=ex1;refine .nm 5 rfl<|.sb 0 1 rfl<|.bf [2] [0] 4 rfl rfl ?_;cases h;exact .rt rfl Tryz.results91 (.cell rfl (.head _) rfl .nil) rfl ⟨rfl,rfl⟩ (zl [] 1 rfl)
theorem zOe:Ent Tryz.prog 38:=en Tryz.func38 (by kernel_rfl)
noncomputable def vX (a_p0:zD):Option (List zL):=
 bnd (mkS 40 (⟨⟨#[]⟩,(⟨0,0,0⟩:zK)⟩:zL) 0 (a_p0.devices.length:Int)) fun l1=>bnd (yG (τ:=List zL) (fun (s1:List zL × Int)=>bif decide (s1.2<(a_p0.devices.length:Int)) then (bnd (elt a_p0.devices s1.2) fun x1=>bnd (oU x1) fun r1=>bnd (app 40 s1.1 [(⟨x1.Name,r1⟩:zL)]) fun l2=>some (.next (l2,IntKind.wrap .i64 (s1.2+1)))) else (some (.done s1.1))) (l1,0)) fun o1=>some o1
theorem tL {a_p0 A1 c1 A2 c2 A3 c3 A4 c4 A5 c5 gb1 gb2 r} (h:vX a_p0=some r):
    Fun Tryz.prog 38 [.pointer (some ⟨gb1,0,none⟩)] [.ro (SlL zR A2 c2 a_p0.needs), .ro (SlL yU A3 c3 a_p0.load.Have), .ro (SlL eu8 A4 c4 a_p0.load.Data), .ro (SlL yH A5 c5 a_p0.order), .res (Box gb1 144 (zI a_p0 gb2 A1 c1 A2 c2 A3 c3 A4 c4 A5 c5)), .res (xK (yL zE) 64 A1 c1 a_p0.devices)] (fun v F=>∃ A6 c6,v= .slice A6 r.length c6∧F= [.res (Box gb1 144 (zI a_p0 gb2 A1 c1 A2 c2 A3 c3 A4 c4 A5 c5)), .res (xK (yL zE) 64 A1 c1 a_p0.devices), .res (zM zJ 85 A6 c6 r)]):=by
 refine Fun.intro Tryz.func38 rfl rfl rfl fun w R=>?_;refine .ab [0] rfl<|.a 3 rfl<|.lb 1 4 rfl<|.p rfl rfl<|.bd h fun l1 hl1 h=>.mkL (E:=zJ) (⟨⟨#[]⟩,(⟨0,0,0⟩:zK)⟩:zL) hl1 rfl rfl rfl rfl rfl rfl rfl rfl rfl rfl fun g1=>.b [0,3] rfl<|.seq<|.a 3 rfl<|.lb 1 5 rfl<|.b [3,15,16,17] rfl<|.bd h fun o1 hl1 h=>.cutK 1 (fun (e2:Option Addr × Nat)=>[.s 3 (.slice e2.1 o1.length e2.2)]) (fun e2=>[.res (zM zJ 85 e2.1 e2.2 o1)]) rfl rfl ?_ ?_
 ·refine .block<|.loopQ hl1 1 (fun (s1:List zL × Int) (e1:Option Addr × Nat)=>[.s 3 (.slice e1.1 s1.1.length e1.2),15,16, .s 17 (.int .i64 s1.2)]) (fun s1 e1=>[.res (zM zJ 85 e1.1 e1.2 s1.1)]) rfl rfl ((some ⟨g1,0,none⟩),(Int.toNat (a_p0.devices.length:Int))) (zb rfl) (fun _ w=>w) ?_;rintro s1 ⟨A6,c6⟩ st1 hm1 hd1 h1;refine .ae rfl<|.seq<|.cb h1 rfl (fun h1=>?_) (fun h1=>?_)
  ·refine .sk<|.pr [3,15,16,17] rfl<|.seq<|.block<|.seq<|.region<|.bd h1 fun x1 hx1 h1=>.ixC hx1 rfl rfl rfl (zm 6 rfl) rfl rfl rfl rfl rfl fun g2 hA=>?_;subst hA;refine .ldC (ls:=zE) 0 (fun ex=>.agg (zN x1 ex.1.1 ex.1.2 ex.2.1.1 ex.2.1.2).toArray) hx1 rfl rfl (zm 6 rfl) rfl (fun _=>rfl) fun ex1=>?_;obtain ⟨⟨A8,c8⟩,⟨⟨A9,c9⟩,_⟩⟩:=ex1;refine .nm 9 rfl<|.alloc rfl rfl fun g3=>.sb 0 0 rfl<|.b [3,5,15,16,17] rfl<|.regionX (iN [0,4,9,13,18,20,27,31,32] .nil) _ mixed (by kernel_rfl) (zl [0,0,0] 1 rfl)<|.yn 2 rfl<|.yx 0 0 rfl<|.yx 0 0 rfl<|.bd h1 fun r1 hr1 h1=>.xqc (fun _ h=>h) (aA hr1) zUT rfl rfl rfl rfl (za [1,2] rfl)<|.yn 1 rfl<|.xef<|.bS rfl fun g4=>.xk (zl [1,1,1] 2 rfl)<|.xef<|.bd h1 fun l2 hl2 h1=>.app (E:=zJ) hl2 rfl rfl rfl (.s (.s (.s (.s .z)))) rfl rfl rfl rfl rfl rfl rfl rfl (eO (.head _) rfl rfl) rfl rfl fun A10 c10=>.xk (zl [] 2 rfl)<|.yn 1 rfl<|.xdone<|.blkN<|.thenN<|.pf [3,15,16,17] [0] 4 rfl rfl<|.region ?_;cases h1;exact .be rfl<|.ag (A10,c10) hm1 rfl zw
  refine .xq rfl ?_;cases h1;cases hd1 _ rfl
  exact .thenN<|.hE (A6,c6) rfl zw
 rintro ⟨A7,c7⟩;refine .ab [2] rfl ?_;cases h;exact .rv rfl rfl ⟨A7,c7,rfl,rfl⟩ (zl [5,5,0] 4 rfl)
theorem zWv:Ent Tryz.prog 161:=en Tryz.func161 (by kernel_rfl)
noncomputable def uU (x_p0:zL) (cap0:zH):Option Bool:=
 some (x_p0.Name.toList==cap0.Name.toList)
theorem bU {x_p0 cap0 A1 c1 gb1 r} (h:uU x_p0 cap0=some r):
    Fun Tryz.prog 161 [.agg (lW x_p0).toArray, .pointer (some ⟨gb1,0,none⟩)] [.ro (SlL eu8 A1 c1 cap0.Data), .res (Box gb1 58 (xJ cap0 A1 c1))] (fun v F=>v= .bool r∧F= [.res (Box gb1 58 (xJ cap0 A1 c1))]):=by
 unfold uU at h
 refine Fun.intro Tryz.func161 rfl rfl rfl fun w R=>?_;refine .seq<|.region<|.box rfl rfl fun g1=>.b [1,2] rfl<|.a 1 rfl<|.lb 0 0 rfl<|.p rfl rfl<|.lb 0 2 rfl<|.bf [3] [] 1 rfl rfl ?_;cases h;exact .rv rfl rfl ⟨rfl,rfl⟩ (zl [] 1 rfl)
theorem zVL:Ent Tryz.prog 160:=en Tryz.func160 (by kernel_rfl)
noncomputable def zV (s_p0:(List zL)) (f_p1_c0:zH):Option Int:=
 bnd (yG (τ:=Int ⊕ Unit) (fun (s1:Int)=>bif decide (s1<(s_p0.length:Int)) then (bnd (elt s_p0 s1) fun x1=>bnd (uU x1 f_p1_c0) fun r1=>bif r1 then (some (.done (.inl s1))) else (some (.next (IntKind.wrap .i64 (s1+1))))) else (some (.done (.inr ())))) 0) fun o1=>wT o1 fun o2=>some (-1)
theorem tG {s_p0 f_p1_c0 A1 c1 A2 c2 gb1 r} (h:zV s_p0 f_p1_c0=some r):
    Fun Tryz.prog 160 [.slice A1 s_p0.length c1, .func (.func 161) #[] #[.pointer (some ⟨gb1,0,none⟩)]] [.ro (SlL eu8 A2 c2 f_p1_c0.Data), .res (zM zJ 85 A1 c1 s_p0), .res (Box gb1 58 (xJ f_p1_c0 A2 c2))] (fun v F=>v= .int .i64 r∧F= [.res (Box gb1 58 (xJ f_p1_c0 A2 c2)), .res (zM zJ 85 A1 c1 s_p0)]):=by
 refine Fun.intro Tryz.func160 rfl rfl rfl fun w R=>?_;refine .ab [0,1] rfl<|.seq<|.ab [0,1,7,8] rfl<|.bd h fun o1 hl1 h=>.cutJ 0 (fun (o2:Unit) (e2:Unit)=>[]) (fun o2 e2=>[]) rfl rfl (fun o2=>o1= .inr o2) ?_ ?_
 ·refine .block<|.loopQ hl1 0 (fun (s1:Int) (e1:Unit)=>[0,1,7, .s 8 (.int .i64 s1)]) (fun s1 e1=>[]) rfl rfl () (zb rfl) (fun _ w=>w) ?_;rintro s1 e1 st1 hm1 hd1 h1;refine .ae rfl<|.seq<|.cb h1 rfl (fun h1=>?_) (fun h1=>?_)
  ·refine .sk<|.pr [0,1,7,8] rfl<|.seq<|.block<|.ab [0,1,5,7,8] rfl<|.a 3 rfl<|.bd h1 fun x1 hx1 h1=>.ix2 hx1 1 rfl fun g1 hA=>?_;subst hA;refine .ldO 0 hx1 rfl rfl (.tail _ (.head _)) rfl rfl<|.bd h1 fun r1 hr1 h1=>.callC (args:= [.agg (lW x1).toArray]) (us:= [.pointer (some ⟨gb1,0,none⟩)]) (bU hr1) zWv rfl rfl rfl (zd [1] [2] 0 rfl) ?_;rintro _ _ ⟨rfl,rfl⟩;refine .nm 3 rfl<|.b [0,1,5,7,8,16] rfl<|.cb h1 rfl (fun h1=>?_) (fun h1=>?_)
   ·refine .ab [4] rfl ?_;cases h1;cases hd1 _ rfl
    have h:some _=some _:=h;cases h;exact .rv rfl rfl ⟨rfl,rfl⟩ (zl [0] 1 rfl)
   refine .skip<|.blkN<|.thenN<|.pr [0,1,7,8] rfl<|.region ?_;cases h1;exact .be rfl<|.ag () hm1 rfl (zl [1,1] 0 rfl)
  refine .xq rfl ?_;cases h1;cases hd1 _ rfl
  exact .thenN<|.hereI () () rfl trivial zw
 rintro o2 e2 ho;subst ho;have h:=unR h;refine .ae rfl ?_;cases h;exact .rv rfl rfl ⟨rfl,rfl⟩ (zl [2] 1 rfl)
theorem zWI:Ent Tryz.prog 231:=en Tryz.func231 (by kernel_rfl)
noncomputable def uB (s_p0:(List zT)) (v_p1:zT):Option Int:=
 bnd (yG (τ:=Int ⊕ Unit) (fun (s1:Int)=>bif decide (s1<(s_p0.length:Int)) then (bnd (elt s_p0 s1) fun x1=>bif ((v_p1.Component.toList==x1.Component.toList)&&(((v_p1.From.Major==x1.From.Major)&&((v_p1.From.Minor==x1.From.Minor)&&((v_p1.From.Patch==x1.From.Patch)&&true)))&&((v_p1.On.toList==x1.On.toList)&&(((v_p1.At.Major==x1.At.Major)&&((v_p1.At.Minor==x1.At.Minor)&&((v_p1.At.Patch==x1.At.Patch)&&true)))&&true)))) then (some (.done (.inl s1))) else (some (.next (IntKind.wrap .i64 (s1+1))))) else (some (.done (.inr ())))) 0) fun o1=>wT o1 fun o2=>some (-1)
theorem lL {s_p0 v_p1 A1 c1 r} (h:uB s_p0 v_p1=some r):
    Fun Tryz.prog 231 [.slice A1 s_p0.length c1, .agg (zCX v_p1).toArray] [.ro (SlL zR A1 c1 s_p0)] (Val (.int .i64 r)):=by
 refine Fun.intro Tryz.func231 rfl rfl rfl fun w R=>?_;refine .seq<|.region<|.box rfl rfl fun g1=>.b [0,3] rfl<|.seq<|.ab [0,3,7,8] rfl<|.bd h fun o1 hl1 h=>.cutJ 2 (fun (o2:Unit) (e2:Unit)=>[]) (fun o2 e2=>[]) rfl rfl (fun o2=>o1= .inr o2) ?_ ?_
 ·refine .block<|.loopQ hl1 0 (fun (s1:Int) (e1:Unit)=>[0,3,7, .s 8 (.int .i64 s1)]) (fun s1 e1=>[]) rfl rfl () (zb rfl) (fun _ w=>w) ?_;rintro s1 e1 st1 hm1 hd1 h1;refine .ae rfl<|.seq<|.cb h1 rfl (fun h1=>?_) (fun h1=>?_)
  ·refine .sk<|.pr [0,3,7,8] rfl<|.seq<|.block<|.ab [0,3,5,7,8] rfl<|.seq<|.regionF mixed (by kernel_rfl)<|.lb 0 0 rfl<|.n 2 rfl<|.bd h1 fun x1 hx1 h1=>.ix1 hx1 1 rfl fun b1 ob1=>.ld ob1 0 0 rfl<|.beq rfl<|.pf [0,3,5,7,8,16] [] 1 rfl rfl<|.cb h1 rfl (fun h1=>?_) (fun h1=>?_)
   ·refine .abf [4] [] 2 rfl rfl ?_;cases h1;cases hd1 _ rfl
    have h:some _=some _:=h;cases h;exact .rv rfl rfl ⟨rfl,rfl⟩ zw
   refine .skip<|.blkN<|.thenN<|.pr [0,3,7,8] rfl<|.region ?_;cases h1;exact .be rfl<|.ag () hm1 rfl zw
  refine .xq rfl ?_;cases h1;cases hd1 _ rfl
  exact .thenN<|.hereI () () rfl trivial (zl [] 2 rfl)
 rintro o2 e2 ho;subst ho;have h:=unR h;refine .ae rfl ?_;cases h;exact .rv rfl rfl ⟨rfl,rfl⟩ zw
theorem zVA:Ent Tryz.prog 162:=en Tryz.func162 (by kernel_rfl)
noncomputable def wD (s_p0:(List zT)) (v_p1:zT):Option Bool:=
 bnd (uB s_p0 v_p1) fun r1=>some (decide (r1≥0))
theorem nS {s_p0 v_p1 A1 c1 r} (h:wD s_p0 v_p1=some r):
    Fun Tryz.prog 162 [.slice A1 s_p0.length c1, .agg (zCX v_p1).toArray] [.ro (SlL zR A1 c1 s_p0)] (Val (.bool r)):=by
 refine Fun.intro Tryz.func162 rfl rfl rfl fun w R=>?_;refine .seq<|.region<|.box rfl rfl fun g1=>.b [0,3] rfl<|.a 1 rfl<|.lb 0 0 rfl<|.bd h fun r1 hr1 h=>.cv [1] (lL hr1) zWI rfl<|.bf [4] [] 2 rfl rfl ?_;cases h;exact .rv rfl rfl ⟨rfl,rfl⟩ zw
theorem zXJ:Ent Tryz.prog 79:=en Tryz.func79 (by kernel_rfl)
noncomputable def tW (a_p0:zD) (b_p1:zX):Option (xE × Int):=
 bnd (vX a_p0) fun r1=>bnd (vX a_p0) fun r2=>bnd (xD a_p0.needs) fun r3=>bnd (yG (τ:=(xE × Int) ⊕ List zL) (fun (s1:Int × List zL)=>bif decide (s1.1<(b_p1.Images.length:Int)) then (bnd (elt b_p1.Images s1.1) fun x1=>bnd (zV s1.2 x1) fun r4=>bif decide (r4<0) then (some (.done (.inl ((⟨[], [], []⟩:xE),8)))) else (bnd (elt s1.2 r4) fun x2=>bnd (tH s1.2 r4 (⟨x2.Name,x1.Version⟩:zL)) fun l1=>some (.next (IntKind.wrap .i64 (s1.1+1),l1)))) else (some (.done (.inr s1.2)))) (0,r2)) fun o1=>wT o1 fun o2=>bnd (yG (τ:=(xE × Int) ⊕ Unit) (fun (s2:Int)=>bif decide (s2<(b_p1.Needs.length:Int)) then (bnd (elt b_p1.Needs s2) fun x3=>bnd (wD a_p0.needs x3) fun r5=>bif !r5 then (some (.done (.inl ((⟨[], [], []⟩:xE),42)))) else (some (.next (IntKind.wrap .i64 (s2+1))))) else (some (.done (.inr ())))) 0) fun o3=>wT o3 fun o4=>some ((⟨r1,o2,r3⟩:xE),0)
theorem zAV {a_p0 b_p1 A1 c1 A2 c2 A3 c3 A4 c4 A5 c5 A6 c6 A7 c7 gb1 gb2 r} (h:tW a_p0 b_p1=some r):
    Fun Tryz.prog 79 [.pointer (some ⟨gb1,0,none⟩), .agg #[.slice A6 b_p1.Images.length c6, .slice A7 b_p1.Needs.length c7]] [.ro (SlL zR A2 c2 a_p0.needs), .ro (SlL yU A3 c3 a_p0.load.Have), .ro (SlL eu8 A4 c4 a_p0.load.Data), .ro (SlL yH A5 c5 a_p0.order), .ro (Sl (yL xC) A6 c6 b_p1.Images), .ro (SlL zR A7 c7 b_p1.Needs), .res (Box gb1 144 (zI a_p0 gb2 A1 c1 A2 c2 A3 c3 A4 c4 A5 c5)), .res (xK (yL zE) 64 A1 c1 a_p0.devices)] (fun v F=>∃ A8 c8 A9 c9 A10 c10,v= .tuple #[.agg #[.slice A8 r.1.Now.length c8, .slice A9 r.1.Next.length c9, .slice A10 r.1.Needs.length c10], .int .i64 r.2]∧F= [.ro (SlL zJ A8 c8 r.1.Now), .ro (SlL zJ A9 c9 r.1.Next), .ro (SlL zR A10 c10 r.1.Needs), .res (Box gb1 144 (zI a_p0 gb2 A1 c1 A2 c2 A3 c3 A4 c4 A5 c5)), .res (xK (yL zE) 64 A1 c1 a_p0.devices)]):=by
 refine Fun.intro Tryz.func79 rfl rfl rfl fun w R=>?_;refine .seq<|.region<|.box rfl rfl fun g1=>.alloc rfl rfl fun g2=>.b [0,3,4] rfl<|.seq<|.bd h fun r1 hr1 h=>.bd h fun r2 hr2 h=>.bd h fun r3 hr3 h=>.regionX (iN [0,8,16,20,24,28] (.alt (iN [7] (.alt (iN [15] (.alt (iN [35,36] (iN [43] (iN [47] .nil))) (iN [43] (iN [35,36] (iN [47] .nil))))) (iN [43] (iN [15] (iN [35,36] (iN [47] .nil)))))) (iN [43] (iN [7] (iN [15] (iN [35,36] (iN [47] .nil))))))) _ mixed (by kernel_rfl) zw<|.shareK (Y:=?Ynd1_0) 10 (fun (e:Option Addr × Nat × Option Addr × Nat × Option Addr × Nat × Nat)=>[0,3,4, .s 6 (.pointer (some ⟨e.2.2.2.2.2.2,0,none⟩)), .s 13 (.slice e.1 r1.length e.2.1), .s 15 (.slice e.2.2.1 r2.length e.2.2.2.1), .s 20 (.slice e.2.2.2.2.1 r3.length e.2.2.2.2.2.1), .s 21 (.agg #[.slice e.1 r1.length e.2.1, .slice e.2.2.1 r2.length e.2.2.2.1, .slice e.2.2.2.2.1 r3.length e.2.2.2.2.2.1])]) (fun e=>[.res (Box e.2.2.2.2.2.2 83 [.slice none 0 0, .slice none 0 0, .slice none 0 0]), .res (zM zR 123 e.2.2.2.2.1 e.2.2.2.2.2.1 r3),8,9, .res (zM zJ 85 e.2.2.1 e.2.2.2.1 r2), .res (zM zJ 85 e.1 e.2.1 r1),0,1,2,3,4,5,6,7]) rfl rfl (fun hnd1_0=>?mnd1_0) ?tnd1_0
 case mnd1_0=>
  refine .shareK (Y:=?Ynd1_1) 10 (fun (e:Option Addr × Nat × Option Addr × Nat × Nat)=>[0,3,4, .s 6 (.pointer (some ⟨e.2.2.2.2,0,none⟩)), .s 13 (.slice e.1 r1.length e.2.1), .s 15 (.slice e.2.2.1 r2.length e.2.2.2.1), .s 19 (.slice A2 a_p0.needs.length c2)]) (fun e=>[.res (Box e.2.2.2.2 83 [.slice none 0 0, .slice none 0 0, .slice none 0 0]),8,9, .res (zM zJ 85 e.2.2.1 e.2.2.2.1 r2), .res (zM zJ 85 e.1 e.2.1 r1),0,1,2,3,4,5,6,7]) rfl rfl (fun hnd1_1=>?mnd1_1) ?tnd1_1
  case mnd1_1=>
   refine .shareK (Y:=?Ynd1_2) 10 (fun (e:Option Addr × Nat × Nat)=>[0,3,4, .s 6 (.pointer (some ⟨e.2.2,0,none⟩)), .s 13 (.slice e.1 r1.length e.2.1), .s 14 (.pointer (some ⟨gb1,0,none⟩)), .s 19 (.slice A2 a_p0.needs.length c2)]) (fun e=>[.res (Box e.2.2 83 [.slice none 0 0, .slice none 0 0, .slice none 0 0]),8,9, .res (zM zJ 85 e.1 e.2.1 r1),0,1,2,3,4,5,6,7]) rfl rfl (fun hnd1_2=>?mnd1_2) ?tnd1_2
   case mnd1_2=>
    refine .yn 5 rfl<|.yl 2 8 rfl<|.xalt ?_ ?_
    ·refine .xef<|.cr 11 [4,5,6,7] [8,8] 0 (tL (gb1:=gb1) hr1) zOe rfl fun A8 c8=>.xk (zl [3,3,3,3,3,3,3,3,0,0] 1 rfl)<|.xalt ?_ ?_
     ·refine .xef<|.cr 12 [5,6,7,8] [] 0 (tL (gb1:=gb1) hr2) zOe rfl fun A9 c9=>.xk (zl [4,4,4,4,4,4,4,4,0,0] 2 rfl)<|.xalt ?_ ?_
      ·refine .xef<|.cr 13 [6] [] 0 (uC hr3) zRg rfl fun A10 c10=>.xk (zl [5,5,5,5,5,5,5,5,1,1] 3 rfl)<|.yn 1 rfl<|.xef<|.alloc rfl rfl fun g3=>.xk (zl [6,6,6,6,6,6,6,6,2,2] 4 rfl) ?_;refine hnd1_0 _ _ (A8,c8,A9,c9,A10,c10,g3) ?_ ?_
       ·exact ⟨rfl,rfl,rfl,rfl,rfl,rfl,rfl,rfl,trivial⟩
       exact fun _ w=>w
      refine .xef<|.alloc rfl rfl fun g3=>.xk (zl [5,5,5,5,5,5,5,5,1,1] 3 rfl) ?_;refine hnd1_1 _ _ (A8,c8,A9,c9,g3) ?_ ?_
      ·exact ⟨rfl,rfl,rfl,rfl,rfl,rfl,rfl,trivial⟩
      exact fun _ w=>w
     refine .xef<|.alloc rfl rfl fun g3=>.xk (zl [4,4,4,4,4,4,4,4,1,1] 2 rfl) ?_;refine hnd1_2 _ _ (A8,c8,g3) ?_ ?_
     ·exact ⟨rfl,rfl,rfl,rfl,rfl,rfl,rfl,trivial⟩
     exact fun _ w=>w
    refine .xef<|.alloc rfl rfl fun g3=>.xk (zl [] 1 rfl)<|.xef<|.cr 12 [5,6,7,8] [9,9] 0 (tL (gb1:=gb1) hr1) zOe rfl fun A8 c8=>.xk (zl [4,4,4,4,4,4,4,4,0,0] 2 rfl) ?_;refine hnd1_2 _ _ (A8,c8,g3) ?_ ?_
    ·exact ⟨rfl,rfl,rfl,rfl,rfl,rfl,rfl,trivial⟩
    exact fun _ w=>(w.sl [3] 0 rfl)
   case tnd1_2=>
    rintro ⟨A8,c8,g3⟩;refine .nm 12 rfl<|.xef<|.cr 13 [6,7,8,9] [1,1] 0 (tL (gb1:=gb1) hr2) zOe rfl fun A9 c9=>.xk (zl [5,5,5,5,5,5,5,5,0,0] 3 rfl) ?_;refine hnd1_1 _ _ (A8,c8,A9,c9,g3) ?_ ?_
    ·exact ⟨rfl,rfl,rfl,rfl,rfl,rfl,rfl,trivial⟩
    exact fun _ w=>(w.sl [3] 0 rfl)
  case tnd1_1=>
   rintro ⟨A8,c8,A9,c9,g3⟩;refine .nm 13 rfl<|.xef<|.cr 14 [7] [] 0 (uC hr3) zRg rfl fun A10 c10=>.xk (zl [6,6,6,6,6,6,6,6,2,2] 4 rfl)<|.yn 1 rfl ?_;refine hnd1_0 _ _ (A8,c8,A9,c9,A10,c10,g3) ?_ ?_
   ·exact ⟨rfl,rfl,rfl,rfl,rfl,rfl,rfl,rfl,trivial⟩
   exact fun _ w=>(w.sl [1] 0 rfl)
 case tnd1_0=>
  rintro ⟨A8,c8,A9,c9,A10,c10,g3⟩;refine .nm 14 rfl<|.xef<|.sb 0 0 rfl<|.xk (zl [6,6,6,6,6,6,6,6,2,2] 4 rfl)<|.xdone<|.thenN<|.pr [0,3,4,6] rfl<|.seq<|.a 1 rfl<|.lb 0 7 rfl<|.b [0,3,4,6,23,24,25] rfl<|.bd h fun o1 hl1 h=>.cutJ 5 (fun (o2:List zL) (e2:Option Addr × Nat)=>[0,3,4,6]) (fun o2 e2=>[.res (zM zJ 85 e2.1 e2.2 o2), .res (Box g3 83 [.slice A8 r1.length c8, .slice e2.1 o2.length e2.2, .slice A10 r3.length c10]),1,2,3]) rfl rfl (fun o2=>o1= .inr o2) ?_ ?_
  ·refine .block<|.loopQ hl1 5 (fun (s1:Int × List zL) (e1:Option Addr × Nat)=>[0,3,4,6,23,24, .s 25 (.int .i64 s1.1)]) (fun s1 e1=>[.res (zM zJ 85 e1.1 e1.2 s1.2), .res (Box g3 83 [.slice A8 r1.length c8, .slice e1.1 s1.2.length e1.2, .slice A10 r3.length c10]),1,2,3]) rfl rfl (A9,c9) (zb rfl) (zl [4] 0 rfl) ?_;rintro s1 ⟨A11,c11⟩ st1 hm1 hd1 h1;refine .ae rfl<|.seq<|.cb h1 rfl (fun h1=>?_) (fun h1=>?_)
   ·refine .sk<|.pr [0,3,4,6,23,24,25] rfl<|.seq<|.block<|.seq<|.region<|.bd h1 fun x1 hx1 h1=>.ix3 hx1 12 rfl fun b1 ob1 ex1=>?_;obtain ⟨⟨A13,c13⟩,_⟩:=ex1;refine .nm 16 rfl<|.ld ob1 0 0 rfl<|.alloc rfl rfl fun g4=>.sb 0 0 rfl<|.bf [0,3,4,6,8,23,24,25] [0] 1 rfl rfl<|.a 1 rfl<|.lb 1 3 rfl<|.p rfl rfl<|.bd h1 fun r4 hr4 h1=>.cq 16 [2] [2] 0 (tG hr4) zVL rfl<|.b [0,3,4,6,8,9,23,24,25] rfl<|.seq<|.ab [0,3,4,6,8,9,23,24,25,34] rfl<|.cb h1 rfl (fun h1=>?_) (fun h1=>?_)
    ·refine .a 1 rfl<|.sb 0 8 rfl<|.bf [4,5] [0,5,5,7,7,7,7] 9 rfl rfl<|.asrt (fun _ w=>w.nilSl (cod zJ))<|.asrt (fun _ w=>w.nilSl (cod zJ))<|.asrt (fun _ w=>w.nilSl (cod zR)) ?_;cases h1;cases hd1 _ rfl
     have h:some _=some _:=h;cases h;exact .rt rfl Tryz.results79 (.cell rfl (.tail _ (.tail _ (.tail _ (.head _)))) rfl (.tmp rfl .nil)) rfl ⟨none,0,none,0,none,0,rfl,rfl⟩ (zk 5 8 [3,3,2] [4,4] 0 rfl)
    refine .sk<|.pr [0,3,4,6,8,9,23,24,25] rfl<|.region<|.p rfl rfl<|.lb 1 3 rfl<|.n 2 rfl<|.lb 1 0 rfl<|.bd h1 fun x2 hx2 h1=>.ix2 hx2 1 rfl fun g5 hA=>?_;subst hA;refine .p rfl rfl<|.bd h1 fun l1 hl1 h1=>.stO 1 hx2 hl1 rfl rfl (.s .z) rfl rfl rfl rfl rfl ?_;refine .ss 37 (wZ hl1)<|.asrt (F':=.res (zM zJ 85 (some ⟨g5,0,none⟩) c11 l1):: .res (Box g4 58 (xJ x1 A13 c13)):: .ro (SlL eu8 A13 c13 x1.Data):: .res (Box g3 83 [.slice A8 r1.length c8, .slice (some ⟨g5,0,none⟩) l1.length c11, .slice A10 r3.length c10]):: .res (zM zR 123 A10 c10 r3):: .res (Box gb1 144 (zI a_p0 gb2 A1 c1 A2 c2 A3 c3 A4 c4 A5 c5)):: .res (xK (yL zE) 64 A1 c1 a_p0.devices):: .res (zM zJ 85 A8 c8 r1):: .res (Box g2 83 [.slice none 0 0, .slice none 0 0, .slice none 0 0]):: .res (Box g1 46 [.slice A6 b_p1.Images.length c6, .slice A7 b_p1.Needs.length c7]):: .ro (SlL zR A2 c2 a_p0.needs):: .ro (SlL yU A3 c3 a_p0.load.Have):: .ro (SlL eu8 A4 c4 a_p0.load.Data):: .ro (SlL yH A5 c5 a_p0.order):: .ro (Sl (yL xC) A6 c6 b_p1.Images):: .ro (SlL zR A7 c7 b_p1.Needs)::R) (fun _ w=>by rw [oL hl1]; exact w)<|.done<|.blkN<|.thenN<|.pf [0,3,4,6,23,24,25] [0] 2 rfl rfl<|.region ?_;cases h1;exact .be rfl<|.ag ((some ⟨g5,0,none⟩),c11) hm1 rfl zw
   refine .xq rfl ?_;cases h1;cases hd1 _ rfl
   exact .thenN<|.hereI s1.2 (A11,c11) rfl (zb rfl) zw
  rintro o2 ⟨A12,c12⟩ ho;subst ho;have h:=unR h;refine .seq<|.a 1 rfl<|.lb 1 7 rfl<|.bf [0,4,6,45,46,47] [0,0,0,0,0,0,0,1,1,1,1] 2 rfl rfl<|.bd h fun o3 hl2 h=>.cutJ 12 (fun (o4:Unit) (e4:Unit)=>[4,6]) (fun o4 e4=>[0,1,2,3,4,5,6,7,8,9,10]) rfl rfl (fun o4=>o3= .inr o4) ?_ ?_
  ·refine .block<|.loopQ hl2 0 (fun (s2:Int) (e3:Unit)=>[0,4,6,45,46, .s 47 (.int .i64 s2)]) (fun s2 e3=>[]) rfl rfl () (zb rfl) (fun _ w=>w) ?_;rintro s2 e3 st2 hm2 hd2 h2;refine .ae rfl<|.seq<|.cb h2 rfl (fun h2=>?_) (fun h2=>?_)
   ·refine .sk<|.pr [0,4,6,45,46,47] rfl<|.seq<|.block<|.seq<|.region<|.bd h2 fun x3 hx3 h2=>.ix1 hx3 11 rfl fun b2 ob2=>.ld ob2 0 0 rfl<|.alloc rfl rfl fun g6=>.sb 0 0 rfl<|.bf [0,4,6,11,45,46,47] [0] 1 rfl rfl<|.seq<|.regionF mixed (by kernel_rfl)<|.n 3 rfl<|.lb 2 4 rfl<|.lb 0 0 rfl<|.bd h2 fun r5 hr5 h2=>.cv [8] (nS hr5) zVA rfl<|.beq rfl<|.pf [0,4,6,45,46,47,57] [] 1 rfl rfl<|.cb h2 rfl (fun h2=>?_) (fun h2=>?_)
    ·refine .a 1 rfl<|.sb 0 6 rfl<|.bf [4,5] [0,3,3,4,4,4,4] 5 rfl rfl<|.asrt (fun _ w=>w.nilSl (cod zJ))<|.asrt (fun _ w=>w.nilSl (cod zJ))<|.asrt (fun _ w=>w.nilSl (cod zR)) ?_;cases h2;cases hd2 _ rfl
     have h:some _=some _:=h;cases h;exact .rt rfl Tryz.results79 (.cell rfl (.tail _ (.tail _ (.tail _ (.head _)))) rfl (.tmp rfl .nil)) rfl ⟨none,0,none,0,none,0,rfl,rfl⟩ (zk 5 8 [3,3,2] [4,4] 0 rfl)
    refine .skip<|.blkN<|.thenN<|.pr [0,4,6,45,46,47] rfl<|.region ?_;cases h2;exact .be rfl<|.ag () hm2 rfl zw
   refine .xq rfl ?_;cases h2;cases hd2 _ rfl
   exact .thenN<|.hereI () () rfl (zb rfl) (zl [0,0,0,0,0,0,0,0,0,0,0] 1 rfl)
  rintro o4 e4 ho;subst ho;have h:=unR h;refine .seq<|.region<|.lb 0 1 rfl<|.sb 0 6 rfl<|.bf [4,5] [0,0] 1 rfl rfl<|.asrt (fun _ w=>(w.sl [5] 0 rfl).meltL)<|.asrt (fun _ w=>(w.sl [2] 0 rfl).meltL)<|.asrt (fun _ w=>(w.sl [3] 0 rfl).meltL) ?_;cases h;exact .rt rfl Tryz.results79 (.cell rfl (.tail _ (.tail _ (.tail _ (.head _)))) rfl (.tmp rfl .nil)) rfl ⟨A8,c8,A12,c12,A10,c10,rfl,rfl⟩ (zk 5 8 [4,3,2] [4,4] 0 rfl)
theorem zVJ:Ent Tryz.prog 173:=en Tryz.func173 (by kernel_rfl)
noncomputable def rT (a_p0:zL) (b_p1:zL):Option Bool:=
 some (a_p0.Name.toList==b_p1.Name.toList)
theorem zAq {a_p0 b_p1 r} (h:rT a_p0 b_p1=some r):
    Fun Tryz.prog 173 [.agg (lW a_p0).toArray, .agg (lW b_p1).toArray] [] (Val (.bool r)):=by
 unfold rT at h
 refine Fun.intro Tryz.func173 rfl rfl rfl fun w R=>?_;refine .seq<|.region<|.box rfl rfl fun g1=>.box rfl rfl fun g2=>.b [2,3] rfl<|.a 1 rfl<|.lb 0 1 rfl<|.p rfl rfl<|.lb 0 0 rfl<|.bf [4] [] 2 rfl rfl ?_;cases h;exact .rv rfl rfl ⟨rfl,rfl⟩ zw
theorem zWt:Ent Tryz.prog 172:=en Tryz.func172 (by kernel_rfl)
noncomputable def zZ (s1_p0:(List zL)) (s2_p1:(List zL)):Option Bool:=
 bif ((s1_p0.length:Int) != (s2_p1.length:Int)) then (some false) else (bnd (yG (τ:=Bool ⊕ Unit) (fun (s1:Int)=>bif decide (s1<(s1_p0.length:Int)) then (bnd (elt s1_p0 s1) fun x1=>bnd (elt s2_p1 s1) fun x2=>bnd (rT x1 x2) fun r1=>bif !r1 then (some (.done (.inl false))) else (some (.next (IntKind.wrap .i64 (s1+1))))) else (some (.done (.inr ())))) 0) fun o1=>wT o1 fun o2=>some true)
theorem wN {s1_p0 s2_p1 A1 c1 A2 c2 r} (h:zZ s1_p0 s2_p1=some r):
    Fun Tryz.prog 172 [.slice A1 s1_p0.length c1, .slice A2 s2_p1.length c2, .func (.func 173) #[] #[]] [.ro (SlL zJ A1 c1 s1_p0), .ro (SlL zJ A2 c2 s2_p1)] (Val (.bool r)):=by
 refine Fun.intro Tryz.func172 rfl rfl rfl fun w R=>?_;refine .ab [0,1,2] rfl<|.seq<|.ab [0,1,2,14] rfl<|.cb h rfl (fun h=>?_) (fun h=>?_)
 ·refine .abf [6] [] 2 rfl rfl ?_;cases h;exact .rv rfl rfl ⟨rfl,rfl⟩ zw
 refine .sk<|.pr [0,1,2] rfl<|.seq<|.ab [1,2,15,16,17] rfl<|.bd h fun o1 hl1 h=>.cutJ 2 (fun (o2:Unit) (e2:Unit)=>[]) (fun o2 e2=>[]) rfl rfl (fun o2=>o1= .inr o2) ?_ ?_
 ·refine .block<|.loopQ hl1 0 (fun (s1:Int) (e1:Unit)=>[1,2,15,16, .s 17 (.int .i64 s1)]) (fun s1 e1=>[]) rfl rfl () (zb rfl) (fun _ w=>w) ?_;rintro s1 e1 st1 hm1 hd1 h1;refine .ae rfl<|.seq<|.cb h1 rfl (fun h1=>?_) (fun h1=>?_)
  ·refine .sk<|.pr [1,2,15,16,17] rfl<|.seq<|.block<|.a 1 rfl<|.bd h1 fun x1 hx1 h1=>.ix1 hx1 0 rfl fun b1 ob1=>.ld ob1 0 0 rfl<|.alloc rfl rfl fun g1=>.p rfl rfl<|.sb 0 0 rfl<|.bf [1,2,7,8,15,16,17] [0] 1 rfl rfl<|.a 2 rfl<|.bd h1 fun x2 hx2 h1=>.ix1 hx2 2 rfl fun b2 ob2=>.ld ob2 0 0 rfl<|.alloc rfl rfl fun g2=>.sb 0 0 rfl<|.bf [1,2,8,9,15,16,17] [0] 1 rfl rfl<|.a 1 rfl<|.lb 0 1 rfl<|.lb 0 0 rfl<|.bd h1 fun r1 hr1 h1=>.cv [] (zAq hr1) zVJ rfl<|.bf [1,2,15,16,17,30] [] 2 rfl rfl<|.cb h1 rfl (fun h1=>?_) (fun h1=>?_)
   ·refine .abf [6] [] 2 rfl rfl ?_;cases h1;cases hd1 _ rfl
    have h:some _=some _:=h;cases h;exact .rv rfl rfl ⟨rfl,rfl⟩ zw
   refine .skip<|.blkN<|.thenN<|.pr [1,2,15,16,17] rfl<|.region ?_;cases h1;exact .be rfl<|.ag () hm1 rfl zw
  refine .xq rfl ?_;cases h1;cases hd1 _ rfl
  exact .thenN<|.hereI () () rfl trivial (zl [] 2 rfl)
 rintro o2 e2 ho;subst ho;have h:=unR h;refine .ae rfl ?_;cases h;exact .rv rfl rfl ⟨rfl,rfl⟩ zw
theorem zUR:Ent Tryz.prog 96:=en Tryz.func96 (by kernel_rfl)
noncomputable def sV (p_p0:xE):Option Int:=
 bnd (xT p_p0.Now ([])) fun r1=>bnd (xT p_p0.Next ([])) fun r2=>bnd ((bif (r1.2 != 0) then (some true) else (some (r2.2 != 0)):Option Bool)) fun o1=>bif o1 then (some 1) else (bnd (xT ([]) p_p0.Needs) fun r3=>bif (r3.2 != 0) then (some 2) else (bnd (zZ p_p0.Now p_p0.Next) fun r4=>bif !r4 then (some 8) else (bnd (xT p_p0.Now p_p0.Needs) fun r5=>bnd (xT p_p0.Next p_p0.Needs) fun r6=>bnd ((bif decide (r5.1≥0) then (some true) else (some (decide (r6.1≥0))):Option Bool)) fun o2=>bif o2 then (some 42) else (some 0))))
theorem fH {p_p0 A1 c1 A2 c2 A3 c3 r} (h:sV p_p0=some r):
    Fun Tryz.prog 96 [.agg #[.slice A1 p_p0.Now.length c1, .slice A2 p_p0.Next.length c2, .slice A3 p_p0.Needs.length c3]] [.ro (SlL zJ A1 c1 p_p0.Now), .ro (SlL zJ A2 c2 p_p0.Next), .ro (SlL zR A3 c3 p_p0.Needs)] (Val (.int .i64 r)):=by
 refine Fun.intro Tryz.func96 rfl rfl rfl fun w R=>?_;refine .seq<|.region<|.box rfl rfl fun g1=>.b [1] rfl<|.a 1 rfl<|.lb 0 0 rfl<|.asrt (fun _ w=>w.nilSl (cod zR))<|.bd h fun r1 hr1 h=>.cv [2,0] (uN hr1) zDV rfl<|.bf [1,4] [] 1 rfl rfl<|.a 1 rfl<|.lb 1 0 rfl<|.asrt (fun _ w=>w.nilSl (cod zR))<|.bd h fun r2 hr2 h=>.cv [3,0] (uN hr2) zDV rfl<|.bf [1,4,6] [] 1 rfl rfl<|.seq<|.seq<|.bd h fun o1 hj1 h=>.cu 0 [1, .s 24 (.bool o1)] [] rfl rfl ?_ ?_
 ·refine .region<|.n 3 rfl<|.gs 21 hj1 rfl (fun hj1=>?_) (fun hj1=>?_)
  ·cases hj1;exact .be rfl<|.hU rfl zw
  cases hj1;exact .be rfl<|.hU rfl zw
 refine .cb h rfl (fun h=>?_) (fun h=>?_)
 ·refine .abf [2] [] 4 rfl rfl ?_;cases h;exact .rv rfl rfl ⟨rfl,rfl⟩ zw
 refine .sk<|.pr [1] rfl<|.seq<|.a 1 rfl<|.lb 2 0 rfl<|.asrt (fun _ w=>w.nilSl (cod zJ))<|.bd h fun r3 hr3 h=>.cv [0,4] (uN hr3) zDV rfl<|.bf [1,4] [] 1 rfl rfl<|.ab [1,32] rfl<|.cb h rfl (fun h=>?_) (fun h=>?_)
 ·refine .abf [2] [] 4 rfl rfl ?_;cases h;exact .rv rfl rfl ⟨rfl,rfl⟩ zw
 refine .sk<|.pr [1] rfl<|.seq<|.a 1 rfl<|.lb 0 0 rfl<|.p rfl rfl<|.lb 1 0 rfl<|.bd h fun r4 hr4 h=>.cv [1,2] (wN hr4) zWt rfl<|.b [1,38] rfl<|.cb h rfl (fun h=>?_) (fun h=>?_)
 ·refine .abf [2] [] 4 rfl rfl ?_;cases h;exact .rv rfl rfl ⟨rfl,rfl⟩ zw
 refine .sk<|.pr [1] rfl<|.a 1 rfl<|.lb 0 0 rfl<|.p rfl rfl<|.lb 2 0 rfl<|.bd h fun r5 hr5 h=>.cv [1,3] (uN hr5) zDV rfl<|.b [1,3] rfl<|.a 1 rfl<|.lb 1 0 rfl<|.p rfl rfl<|.lb 2 0 rfl<|.bd h fun r6 hr6 h=>.cv [2,3] (uN hr6) zDV rfl<|.bf [3,5] [] 4 rfl rfl<|.seq<|.seq<|.bd h fun o2 hj2 h=>.cu 0 [.s 60 (.bool o2)] [] rfl rfl ?_ ?_
 ·refine .region<|.n 3 rfl<|.gs 57 hj2 rfl (fun hj2=>?_) (fun hj2=>?_)
  ·cases hj2;exact .be rfl<|.hU rfl zw
  cases hj2;exact .be rfl<|.hU rfl zw
 refine .cb h rfl (fun h=>?_) (fun h=>?_)
 ·refine .ab [2] rfl ?_;cases h;exact .rv rfl rfl ⟨rfl,rfl⟩ zw
 refine .sk<|.pr [] rfl<|.ae rfl ?_;cases h;exact .rv rfl rfl ⟨rfl,rfl⟩ zw
theorem zUM:Ent Tryz.prog 97:=en Tryz.func97 (by kernel_rfl)
noncomputable def qS (p_p0:xE):Option Int:=
 bnd (yG (τ:=Int) (fun (s1:Int × Int)=>bif decide (s1.2<(p_p0.Now.length:Int)) then (bnd (elt p_p0.Now s1.2) fun x1=>bnd (elt p_p0.Next s1.2) fun x2=>bif !((x1.Version.Major==x2.Version.Major)&&((x1.Version.Minor==x2.Version.Minor)&&((x1.Version.Patch==x2.Version.Patch)&&true))) then (bnd (zCH .i64 1 s1.2) fun q1=>some (.next (iOr .i64 s1.1 q1,IntKind.wrap .i64 (s1.2+1)))) else (some (.next (s1.1,IntKind.wrap .i64 (s1.2+1))))) else (some (.done s1.1))) (0,0)) fun o1=>some o1
theorem dH {p_p0 A1 c1 A2 c2 A3 c3 r} (h:qS p_p0=some r):
    Fun Tryz.prog 97 [.agg #[.slice A1 p_p0.Now.length c1, .slice A2 p_p0.Next.length c2, .slice A3 p_p0.Needs.length c3]] [.ro (SlL zJ A1 c1 p_p0.Now), .ro (SlL zJ A2 c2 p_p0.Next), .ro (SlL zR A3 c3 p_p0.Needs)] (Val (.int .i64 r)):=by
 refine Fun.intro Tryz.func97 rfl rfl rfl fun w R=>?_;refine .seq<|.region<|.box rfl rfl fun g1=>.b [1] rfl<|.ae rfl<|.seq<|.a 1 rfl<|.lb 0 0 rfl<|.b [1,3,7,8] rfl<|.bd h fun o1 hl1 h=>.cu 4 [.s 3 (.int .i64 o1)] [] rfl rfl ?_ ?_
 ·refine .block<|.loopQ hl1 0 (fun (s1:Int × Int) (e1:Unit)=>[1, .s 3 (.int .i64 s1.1),7, .s 8 (.int .i64 s1.2)]) (fun s1 e1=>[]) rfl rfl () (zb rfl) (fun _ w=>w) ?_;rintro s1 e1 st1 hm1 hd1 h1;refine .ae rfl<|.seq<|.cb h1 rfl (fun h1=>?_) (fun h1=>?_)
  ·refine .sk<|.pr [1,3,7,8] rfl<|.seq<|.block<|.ab [1,3,4,7,8] rfl<|.seq<|.regionF mixed (by kernel_rfl)<|.p rfl rfl<|.lb 0 0 rfl<|.p rfl rfl<|.bd h1 fun x1 hx1 h1=>.ix1 hx1 1 rfl fun b1 ob1=>.p rfl rfl<|.ld ob1 1 0 rfl<|.p rfl rfl<|.lb 1 1 rfl<|.p rfl rfl<|.bd h1 fun x2 hx2 h1=>.ix1 hx2 3 rfl fun b2 ob2=>.p rfl rfl<|.ld ob2 1 0 rfl<|.beq rfl<|.pf [1,3,4,7,8,23] [] 2 rfl rfl<|.cb h1 rfl (fun h1=>?_) (fun h1=>?_)
   ·refine .region<|.n 2 rfl<|.bd h1 fun q1 hq1 h1=>.shl rfl rfl rfl hq1<|.n 2 rfl<|.done<|.blkN<|.thenN<|.pr [1,3,7,8] rfl<|.region ?_;cases h1;exact .be rfl<|.ag () hm1 rfl zw
   refine .skip<|.blkN<|.thenN<|.pr [1,3,7,8] rfl<|.region ?_;cases h1;exact .be rfl<|.ag () hm1 rfl zw
  refine .xq rfl ?_;cases h1;cases hd1 _ rfl
  exact .thenN<|.hU rfl (zl [] 4 rfl)
 refine .ab [2] rfl ?_;cases h;exact .rv rfl rfl ⟨rfl,rfl⟩ zw
theorem zWP:Ent Tryz.prog 234:=en Tryz.func234 (by kernel_rfl)
noncomputable def xL (s_p0:(List zL)):Option (List zL):=
 bnd (app 40 ([]) s_p0) fun l1=>some l1
theorem qT {s_p0 A1 c1 r} (h:xL s_p0=some r):
    Fun Tryz.prog 234 [.slice A1 s_p0.length c1] [.ro (SlL zJ A1 c1 s_p0)] (fun v F=>∃ A2 c2,v= .slice A2 r.length c2∧F= [.res (zM zJ 85 A2 c2 r)]):=by
 unfold xL at h
 refine Fun.intro Tryz.func234 rfl rfl rfl fun w R=>?_
 rcases A1 with _ | ad
 ·refine .fact (φ:=s_p0= []) (fun w hf=>(hf.ro (r:=SlL zJ none c1 s_p0) (.head _)).2.2.1 rfl) fun hs=>?_;subst hs;have h:(some ([]):Option (List zL))=some r:=by simpa [app,bnd] using h
  refine .ab [0] rfl<|.seq<|.ab [0,4] rfl<|.condT rfl<|.abf [2] [] 1 rfl rfl<|.asrt (fun _ w=>w.nilL zJ 85) ?_;cases h;exact .rv rfl rfl ⟨none,0,rfl,rfl⟩ zw
 refine .ab [0] rfl<|.seq<|.ab [0,4] rfl<|.condF rfl<|.sk<|.pr [0] rfl<|.seq<|.region<|.bS rfl fun g1=>.p rfl rfl<|.asrt (fun _ w=>w.litL (E:=zJ) (e:=85) [] rfl rfl)<|.bd h fun l1 hl1 h=>.app (E:=zJ) hl1 rfl rfl rfl .z rfl rfl rfl rfl rfl rfl rfl rfl (fB (.tail _ (.head _))) rfl rfl fun A2 c2=>.bf [2] [0] 1 rfl rfl ?_;cases h;exact .rv rfl rfl ⟨A2,c2,rfl,rfl⟩ zw
theorem zWl:Ent Tryz.prog 174:=en Tryz.func174 (by kernel_rfl)
noncomputable def pF (p_p0:xE) (set:Int):Option (List zL):=
 bnd (xL p_p0.Now) fun r1=>bnd (yG (τ:=List zL) (fun (s1:Int × List zL)=>bif decide (s1.1<(r1.length:Int)) then (bnd (zGe .i64 set s1.1) fun q1=>bif ((rK .i64 q1 1)==1) then (bnd (elt p_p0.Next s1.1) fun x1=>bnd (elt s1.2 s1.1) fun x2=>bnd (tH s1.2 s1.1 x1) fun l1=>some (.next (IntKind.wrap .i64 (s1.1+1),l1))) else (some (.next (IntKind.wrap .i64 (s1.1+1),s1.2)))) else (some (.done s1.2))) (0,r1)) fun o1=>some o1
theorem zBC {p_p0 set A1 c1 A2 c2 A3 c3 r} (h:pF p_p0 set=some r):
    Fun Tryz.prog 174 [.agg #[.slice A1 p_p0.Now.length c1, .slice A2 p_p0.Next.length c2, .slice A3 p_p0.Needs.length c3], .int .i64 set] [.ro (SlL zJ A1 c1 p_p0.Now), .ro (SlL zJ A2 c2 p_p0.Next), .ro (SlL zR A3 c3 p_p0.Needs)] (fun v F=>∃ A4 c4,v= .slice A4 r.length c4∧F= [.res (zM zJ 85 A4 c4 r)]):=by
 refine Fun.intro Tryz.func174 rfl rfl rfl fun w R=>?_;refine .seq<|.region<|.box rfl rfl fun g1=>.b [1,2] rfl<|.a 1 rfl<|.lb 0 0 rfl<|.bd h fun r1 hr1 h=>.cr 5 [1] [] 0 (qT hr1) zWP rfl fun A4 c4=>.b [1,2,5] rfl<|.seq<|.ab [1,2,5,11,12] rfl<|.bd h fun o1 hl1 h=>.cutK 5 (fun (e2:Option Addr × Nat)=>[.s 5 (.slice e2.1 o1.length e2.2)]) (fun e2=>[.res (zM zJ 85 e2.1 e2.2 o1)]) rfl rfl ?_ ?_
 ·refine .block<|.loopQ hl1 1 (fun (s1:Int × List zL) (e1:Option Addr × Nat)=>[1,2, .s 5 (.slice e1.1 s1.2.length e1.2),11, .s 12 (.int .i64 s1.1)]) (fun s1 e1=>[.res (zM zJ 85 e1.1 e1.2 s1.2)]) rfl rfl (A4,c4) (zb rfl) (fun _ w=>w) ?_;rintro s1 ⟨A5,c5⟩ st1 hm1 hd1 h1;refine .ae rfl<|.seq<|.cb h1 rfl (fun h1=>?_) (fun h1=>?_)
  ·refine .sk<|.pr [1,2,5,11,12] rfl<|.seq<|.block<|.ab [1,2,5,6,11,12] rfl<|.a 2 rfl<|.bd h1 fun q1 hq1 h1=>.shr rfl rfl rfl hq1<|.b [1,2,5,6,11,12,19] rfl<|.cb h1 rfl (fun h1=>?_) (fun h1=>?_)
   ·refine .region<|.n 3 rfl<|.lb 1 1 rfl<|.p rfl rfl<|.bd h1 fun x1 hx1 h1=>.ix1 hx1 3 rfl fun b1 ob1=>.ld ob1 0 0 rfl<|.bd h1 fun x2 hx2 h1=>.ix2 hx2 1 rfl fun g2 hA=>?_;subst hA;refine .bd h1 fun l1 hl1 h1=>.stO 0 hx2 hl1 rfl rfl (.s .z) rfl rfl rfl rfl rfl ?_;refine .ss 5 (wZ hl1) ?_;refine .ss 20 (wZ hl1)<|.done<|.blkN<|.thenN<|.pf [1,2,5,11,12] [0] 1 rfl rfl<|.region ?_;cases h1;exact .be rfl<|.ag ((some ⟨g2,0,none⟩),c5) hm1 rfl zw
   refine .skip<|.blkN<|.thenN<|.pr [1,2,5,11,12] rfl<|.region ?_;cases h1;exact .be rfl<|.ag (A5,c5) hm1 rfl zw
  refine .xq rfl ?_;cases h1;cases hd1 _ rfl
  exact .thenN<|.hE (A5,c5) rfl (zl [0] 4 rfl)
 rintro ⟨A6,c6⟩;refine .ab [4] rfl ?_;cases h;exact .rv rfl rfl ⟨A6,c6,rfl,rfl⟩ zw
theorem zXj:Ent Tryz.prog 99:=en Tryz.func99 (by kernel_rfl)
noncomputable def tJ (p_p0:xE) (set:Int):Option Bool:=
 bnd (pF p_p0 set) fun r1=>bnd (xT r1 p_p0.Needs) fun r2=>bnd ((bif (r2.2==0) then (some (decide (r2.1<0))) else (some false):Option Bool)) fun o1=>some o1
theorem zBS {p_p0 set A1 c1 A2 c2 A3 c3 r} (h:tJ p_p0 set=some r):
    Fun Tryz.prog 99 [.agg #[.slice A1 p_p0.Now.length c1, .slice A2 p_p0.Next.length c2, .slice A3 p_p0.Needs.length c3], .int .i64 set] [.ro (SlL zJ A1 c1 p_p0.Now), .ro (SlL zJ A2 c2 p_p0.Next), .ro (SlL zR A3 c3 p_p0.Needs)] (Val (.bool r)):=by
 unfold tJ at h
 refine Fun.intro Tryz.func99 rfl rfl rfl fun w R=>?_;refine .seq<|.region<|.box rfl rfl fun g1=>.b [1,2] rfl<|.seq<|.regionX (iN [1,4,12,16,11,23,24,28,32,36,40] .nil) _ mixed (by kernel_rfl) zw<|.yx 0 0 rfl<|.yn 2 rfl<|.yl 2 0 rfl<|.xef<|.bd h fun r1 hr1 h=>.cr 5 [1,2,3] [] 0 (zBC hr1) zWl rfl fun A4 c4=>.xk (zl [] 1 rfl)<|.xef<|.asrt (fun _ w=>w.meltL)<|.bd h fun r2 hr2 h=>.cv [0,4] (uN hr2) zDV rfl<|.xk (zl [] 1 rfl)<|.yn 5 rfl<|.xdone<|.thenN<|.pf [5,6] [] 5 rfl rfl<|.seq<|.bd h fun o1 hj1 h=>.cu 0 [.s 4 (.bool o1)] [] rfl rfl ?_ ?_
 ·refine .region<|.n 3 rfl<|.gs 18 hj1 rfl (fun hj1=>?_) (fun hj1=>?_)
  ·cases hj1;exact .be rfl<|.hU rfl zw
  cases hj1;exact .be rfl<|.hU rfl zw
 cases h;exact .rv rfl rfl ⟨rfl,rfl⟩ zw
noncomputable def fI (full:Int) (p:xE) (rec:List (Int × Bool)→Int→List Int→Option (List (Int × Bool) × (List Int × Bool))) (dead:List (Int × Bool)) (set:Int) (order:List Int):Option (List (Int × Bool) × (List Int × Bool)):=
 bif (set==full) then some (dead,order,true) else
 bnd (yG (τ:=(List (Int × Bool) × (List Int × Bool)) ⊕ (List (Int × Bool))) (fun (s1:Int × (List (Int × Bool)))=>bif decide (s1.1<(p.Now.length:Int)) then
  bnd (zCH .i64 1 s1.1) fun q1=>bnd (zGe .i64 full s1.1) fun q2=>
  bif ((rK .i64 q2 1)==0) then some (.next (IntKind.wrap .i64 (s1.1+1),s1.2)) else
  bif ((iOr .i64 set q1)==set) then some (.next (IntKind.wrap .i64 (s1.1+1),s1.2)) else
  bif (vM (yF .i64).eq s1.2 (iOr .i64 set q1)).getD false then some (.next (IntKind.wrap .i64 (s1.1+1),s1.2)) else
  bnd (tJ p (iOr .i64 set q1)) fun r1=>bif !r1 then some (.next (IntKind.wrap .i64 (s1.1+1),s1.2)) else
  bnd (app 8 order [s1.1]) fun l1=>bnd (rec s1.2 (iOr .i64 set q1) l1) fun r2=>
  bif r2.2.2 then some (.done (.inl (r2.1,r2.2.1,true))) else some (.next (IntKind.wrap .i64 (s1.1+1),r2.1))
  else some (.done (.inr s1.2))) (0,dead)) fun o2=>wT o2 fun o3=>some (nD (yF .i64).eq o3 set true, [],false)
noncomputable def aL (full:Int) (p:xE):Nat→List (Int × Bool)→Int→List Int→Option (List (Int × Bool) × (List Int × Bool))
 | 0=>fun _ _ _=>none
 | n_+1=>fI full p (aL full p n_)
theorem zRn:Ent Tryz.prog 98:=en Tryz.func98 (by kernel_rfl)
end Go.Proofs.YtplchdlgdjcojaaGreatDoor
end
section
namespace Go.Proofs.YtplchdlgdjcojaaGreatDoor
open Go
set_option linter.unusedVariables false
set_option maxHeartbeats 4000000
set_option maxRecDepth 4000
theorem zNx {full:Int} {p:xE} {A1:Option Addr} {c1:Nat} {A2:Option Addr} {c2:Nat} {A3:Option Addr} {c3:Nat} {gb1 gb2 gb3 gb4 gm:Nat}:∀ (n_:Nat) {dead:List (Int × Bool)} {set:Int} {order:List Int} {A:Option Addr} {c:Nat} {r:List (Int × Bool) × (List Int × Bool)},aL full p n_ dead set order=some r→
    Fun Tryz.prog 98 [.int .i64 set, .slice A order.length c, .pointer (some ⟨gb1,0,none⟩), .pointer (some ⟨gb2,0,none⟩), .pointer (some ⟨gb3,0,none⟩), .pointer (some ⟨gb4,0,none⟩)] [.ro (SlL zJ A1 c1 p.Now), .ro (SlL zJ A2 c2 p.Next), .ro (SlL zR A3 c3 p.Needs), .res (nC (yF .i64) (fun x=>.bool x) gm dead), .res (zM yH 3 A c order), .res (Box gb1 3 [.int .i64 full]), .res (Box gb2 83 [.slice A1 p.Now.length c1, .slice A2 p.Next.length c2, .slice A3 p.Needs.length c3]), .res (Box gb3 181 [.map (some gm)]), .res (Box gb4 182 [.func (.func 98) #[] #[.pointer (some ⟨gb1,0,none⟩), .pointer (some ⟨gb2,0,none⟩), .pointer (some ⟨gb3,0,none⟩), .pointer (some ⟨gb4,0,none⟩)]])] (fun v_ F_=>∃ (A_:Option Addr) (c_:Nat),v_= .tuple #[.slice A_ r.2.1.length c_, .bool r.2.2]∧F_= [.res (nC (yF .i64) (fun x=>.bool x) gm r.1),(bif r.2.2 then .res (zM yH 3 A_ c_ r.2.1) else .res (zM yH 3 A c order)), .res (Box gb1 3 [.int .i64 full]), .res (Box gb2 83 [.slice A1 p.Now.length c1, .slice A2 p.Next.length c2, .slice A3 p.Needs.length c3]), .res (Box gb3 181 [.map (some gm)]), .res (Box gb4 182 [.func (.func 98) #[] #[.pointer (some ⟨gb1,0,none⟩), .pointer (some ⟨gb2,0,none⟩), .pointer (some ⟨gb3,0,none⟩), .pointer (some ⟨gb4,0,none⟩)]])])
  | 0,dead,set,order,A,c,r,h=>by cases h
  | n_+1,dead,set,order,A,c,r,h=>by
    have h:fI full p (aL full p n_) dead set order=some r:=h
    unfold fI at h
    refine Fun.intro Tryz.func98 rfl rfl rfl fun w R=>?_
    refine St.asrt (F':=.ro (SlL zJ A1 c1 p.Now):: .ro (SlL zJ A2 c2 p.Next):: .ro (SlL zR A3 c3 p.Needs):: .res (nC (yF .i64) (fun x=>.bool x) gm dead):: .res (zM yH 3 A c order):: .res (Box gb1 3 [.int .i64 full]):: .res (Box gb2 83 [.slice A1 p.Now.length c1, .slice A2 p.Next.length c2, .slice A3 p.Needs.length c3]):: .res (Box gb3 181 [.map (some gm)]):: .res (Box gb4 182 [.func (.func 98) #[] #[.pointer (some ⟨gb1,0,none⟩), .pointer (some ⟨gb2,0,none⟩), .pointer (some ⟨gb3,0,none⟩), .pointer (some ⟨gb4,0,none⟩)]])::R) (fun _ w=>w) ?_
    refine St.asrt (F':=.res (nC (yF .i64) (fun x=>.bool x) gm dead):: .res (zM yH 3 A c order):: .res (Box gb1 3 [.int .i64 full]):: .res (Box gb2 83 [.slice A1 p.Now.length c1, .slice A2 p.Next.length c2, .slice A3 p.Needs.length c3]):: .res (Box gb3 181 [.map (some gm)]):: .res (Box gb4 182 [.func (.func 98) #[] #[.pointer (some ⟨gb1,0,none⟩), .pointer (some ⟨gb2,0,none⟩), .pointer (some ⟨gb3,0,none⟩), .pointer (some ⟨gb4,0,none⟩)]]):: .ro (SlL zJ A1 c1 p.Now):: .ro (SlL zJ A2 c2 p.Next):: .ro (SlL zR A3 c3 p.Needs)::R) (fun _ w=>w.perm (by exact List.perm_append_comm (l₁:= [.ro (SlL zJ A1 c1 p.Now), .ro (SlL zJ A2 c2 p.Next), .ro (SlL zR A3 c3 p.Needs)]) (l₂:= [.res (nC (yF .i64) (fun x=>.bool x) gm dead), .res (zM yH 3 A c order), .res (Box gb1 3 [.int .i64 full]), .res (Box gb2 83 [.slice A1 p.Now.length c1, .slice A2 p.Next.length c2, .slice A3 p.Needs.length c3]), .res (Box gb3 181 [.map (some gm)]), .res (Box gb4 182 [.func (.func 98) #[] #[.pointer (some ⟨gb1,0,none⟩), .pointer (some ⟨gb2,0,none⟩), .pointer (some ⟨gb3,0,none⟩), .pointer (some ⟨gb4,0,none⟩)]])]) |>.append_right R)) ?_
    refine St.seq ?_
    refine St.region ?_
    iterate 2 refine St.p rfl rfl ?_
    refine St.done ?_
    refine St.thenN ?_
    refine St.seq ?_
    refine St.seq ?_
    refine St.region ?_
    refine St.p rfl rfl ?_
    refine St.loadB 0 rfl rfl (.tail _ (.tail _ (.head _))) rfl rfl ?_
    refine St.p rfl rfl ?_
    refine St.done ?_
    refine St.thenN ?_
    refine St.cond _ rfl (fun hb1=>?_) (fun hb1=>?_)
    · replace h := dR hb1 h
      refine St.seq ?_
      refine St.region ?_
      iterate 3 refine St.p rfl rfl ?_
      refine St.done ?_
      refine St.thenN ?_
      refine St.ret ?_
      repeat (first | refine St.thenR ?_ | refine St.blkR ?_)
      injection h with h
      subst h
      exact St.finR Tryz.results98 (.tmp rfl (.tmp rfl .nil)) rfl [.res (nC (yF .i64) (fun x=>.bool x) gm dead), .res (zM yH 3 A c order), .res (Box gb1 3 [.int .i64 full]), .res (Box gb2 83 [.slice A1 p.Now.length c1, .slice A2 p.Next.length c2, .slice A3 p.Needs.length c3]), .res (Box gb3 181 [.map (some gm)]), .res (Box gb4 182 [.func (.func 98) #[] #[.pointer (some ⟨gb1,0,none⟩), .pointer (some ⟨gb2,0,none⟩), .pointer (some ⟨gb3,0,none⟩), .pointer (some ⟨gb4,0,none⟩)]])] ⟨A,c,rfl,rfl⟩ (fun _ w=>((.k (.k (.k (.k (.k (.k (.d (.d (.d .z))))))))):qE _ _).sat w)
    · replace h := dG hb1 h
      refine St.skip ?_
      refine St.thenN ?_
      refine St.prune (Γ':= [(0,_),(1,_),(2,_),(3,_),(4,_),(5,_)]) ⟨rfl,rfl,rfl,rfl,rfl,rfl,trivial⟩ (.k (.k (.k (.k (.k (.k (.k (.k (.k .z))))))))) ?_
      refine St.seq ?_
      refine St.seq ?_
      refine St.region ?_
      refine St.p rfl rfl ?_
      refine St.loadB 0 rfl rfl (.tail _ (.tail _ (.tail _ (.head _)))) rfl rfl ?_
      iterate 2 refine St.p rfl rfl ?_
      refine St.done ?_
      refine St.thenN ?_
      obtain ⟨o2,hl1,h⟩:=zES h
      refine St.cutI (fun (o3:List (Int × Bool)) (e3:Unit)=> [(0, .int .i64 set),(4, .pointer (some ⟨gb3,0,none⟩))]) (fun o3 e3=>.res (nC (yF .i64) (fun x=>.bool x) gm o3):: .res (zM yH 3 A c order):: .res (Box gb1 3 [.int .i64 full]):: .res (Box gb2 83 [.slice A1 p.Now.length c1, .slice A2 p.Next.length c2, .slice A3 p.Needs.length c3]):: .res (Box gb3 181 [.map (some gm)]):: .res (Box gb4 182 [.func (.func 98) #[] #[.pointer (some ⟨gb1,0,none⟩), .pointer (some ⟨gb2,0,none⟩), .pointer (some ⟨gb3,0,none⟩), .pointer (some ⟨gb4,0,none⟩)]]):: .ro (SlL zJ A1 c1 p.Now):: .ro (SlL zJ A2 c2 p.Next):: .ro (SlL zR A3 c3 p.Needs)::R) (fun o3=>o2= .inr o3) ?_ ?_
      · refine St.block ?_
        refine St.loop hl1 (fun (s1:Int × (List (Int × Bool))) (e2:Unit)=> [(0, .int .i64 set),(1, .slice A order.length c),(2, .pointer (some ⟨gb1,0,none⟩)),(3, .pointer (some ⟨gb2,0,none⟩)),(4, .pointer (some ⟨gb3,0,none⟩)),(5, .pointer (some ⟨gb4,0,none⟩)),(20, .int .i64 (p.Now.length:Int)),(21, .int .i64 s1.1)]) (fun s1 e2=>.res (nC (yF .i64) (fun x=>.bool x) gm s1.2):: .res (zM yH 3 A c order):: .res (Box gb1 3 [.int .i64 full]):: .res (Box gb2 83 [.slice A1 p.Now.length c1, .slice A2 p.Next.length c2, .slice A3 p.Needs.length c3]):: .res (Box gb3 181 [.map (some gm)]):: .res (Box gb4 182 [.func (.func 98) #[] #[.pointer (some ⟨gb1,0,none⟩), .pointer (some ⟨gb2,0,none⟩), .pointer (some ⟨gb3,0,none⟩), .pointer (some ⟨gb4,0,none⟩)]]):: .ro (SlL zJ A1 c1 p.Now):: .ro (SlL zJ A2 c2 p.Next):: .ro (SlL zR A3 c3 p.Needs)::R) (fun _ _=>True) () trivial ⟨rfl,rfl,rfl,rfl,rfl,rfl,rfl,rfl,trivial⟩ (fun _ w=>w) ?_
        rintro s1 e2 - hit1
        obtain ⟨st1,hm1,hd1⟩:=zTb hit1
        have h1:=hm1
        refine St.seq ?_
        refine St.region ?_
        refine St.p rfl rfl ?_
        refine St.done ?_
        refine St.thenN ?_
        refine St.seq ?_
        refine St.cond _ rfl (fun hb4=>?_) (fun hb4=>?_)
        · replace h1 := dR hb4 h1
          refine St.skip ?_
          refine St.thenN ?_
          refine St.seq ?_
          refine St.block ?_
          refine St.seq ?_
          refine St.region ?_
          iterate 2 refine St.p rfl rfl ?_
          refine St.done ?_
          refine St.thenN ?_
          refine St.seq ?_
          refine St.region ?_
          iterate 2 refine St.p rfl rfl ?_
          obtain ⟨q1,hq1,h1⟩:=zES h1
          refine St.shl rfl rfl rfl hq1 ?_
          iterate 2 refine St.p rfl rfl ?_
          refine St.done ?_
          refine St.thenN ?_
          refine St.seq ?_
          refine St.seq ?_
          refine St.region ?_
          refine St.loadB 0 rfl rfl (.tail _ (.tail _ (.head _))) rfl rfl ?_
          refine St.p rfl rfl ?_
          obtain ⟨q2,hq2,h1⟩:=zES h1
          refine St.shr rfl rfl rfl hq2 ?_
          iterate 3 refine St.p rfl rfl ?_
          refine St.gSplit (dj:=33) _ rfl (fun hb5=>?_) (fun hb5=>?_)
          · replace h1 := dR hb5 h1
            iterate 3 refine St.gOff (dj:=33) rfl rfl rfl rfl ?_
            iterate 2 refine St.p rfl rfl ?_
            iterate 3 refine St.gOff (dj:=38) rfl rfl rfl rfl ?_
            iterate 2 refine St.p rfl rfl ?_
            iterate 4 refine St.gOff (dj:=43) rfl rfl rfl rfl ?_
            refine St.p rfl rfl ?_
            refine St.done ?_
            refine St.thenN ?_
            refine St.condT rfl ?_
            refine St.exit ?_
            repeat (first | refine St.thenX ?_ | refine St.blkMiss rfl ?_)
            refine St.blkHit ?_
            refine St.thenN ?_
            refine St.region ?_
            iterate 2 refine St.p rfl rfl ?_
            refine St.done ?_
            injection h1 with h1
            subst h1
            refine St.thenN ?_
            exact St.again _ () hm1 trivial ⟨rfl,rfl,rfl,rfl,rfl,rfl,rfl,rfl,trivial⟩ (fun _ w=>((.k (.k (.k (.k (.k (.k (.k (.k (.k .z))))))))):qE _ _).sat w)
          · replace h1 := dG hb5 h1
            refine St.gOn (dj:=33) rfl rfl ?_
            refine St.p rfl rfl ?_
            refine St.gOn (dj:=33) rfl rfl ?_
            refine St.p rfl rfl ?_
            refine St.gOn (dj:=33) rfl rfl ?_
            refine St.p rfl rfl ?_
            iterate 2 refine St.p rfl rfl ?_
            refine St.gSplit (dj:=38) _ rfl (fun hb6=>?_) (fun hb6=>?_)
            · replace h1 := dR hb6 h1
              iterate 3 refine St.gOff (dj:=38) rfl rfl rfl rfl ?_
              iterate 2 refine St.p rfl rfl ?_
              iterate 4 refine St.gOff (dj:=43) rfl rfl rfl rfl ?_
              refine St.p rfl rfl ?_
              refine St.done ?_
              refine St.thenN ?_
              refine St.condT rfl ?_
              refine St.exit ?_
              repeat (first | refine St.thenX ?_ | refine St.blkMiss rfl ?_)
              refine St.blkHit ?_
              refine St.thenN ?_
              refine St.region ?_
              iterate 2 refine St.p rfl rfl ?_
              refine St.done ?_
              injection h1 with h1
              subst h1
              refine St.thenN ?_
              exact St.again _ () hm1 trivial ⟨rfl,rfl,rfl,rfl,rfl,rfl,rfl,rfl,trivial⟩ (fun _ w=>((.k (.k (.k (.k (.k (.k (.k (.k (.k .z))))))))):qE _ _).sat w)
            · replace h1 := dG hb6 h1
              refine St.gOn (dj:=38) rfl rfl ?_
              refine St.loadB 0 rfl rfl (.tail _ (.tail _ (.tail _ (.tail _ (.head _))))) rfl rfl ?_
              refine St.gOn (dj:=38) rfl rfl ?_
              refine St.p rfl rfl ?_
              refine St.gOn (dj:=38) rfl rfl ?_
              refine St.lookup (K:=(yF .i64)) (vv:=(fun x=>.bool x)) (u:=.bool ((vM (yF .i64).eq s1.2 (iOr .i64 set q1)).getD false)) false (iOr .i64 set q1) rfl rfl rfl (.head _) rfl rfl rfl rfl rfl rfl rfl ?_
              iterate 2 refine St.p rfl rfl ?_
              refine St.gSplit (dj:=43) _ rfl (fun hb7=>?_) (fun hb7=>?_)
              · replace h1 := dR hb7 h1
                iterate 4 refine St.gOff (dj:=43) rfl rfl rfl rfl ?_
                refine St.p rfl rfl ?_
                refine St.done ?_
                refine St.thenN ?_
                refine St.condT rfl ?_
                refine St.exit ?_
                repeat (first | refine St.thenX ?_ | refine St.blkMiss rfl ?_)
                refine St.blkHit ?_
                refine St.thenN ?_
                refine St.region ?_
                iterate 2 refine St.p rfl rfl ?_
                refine St.done ?_
                injection h1 with h1
                subst h1
                refine St.thenN ?_
                exact St.again _ () hm1 trivial ⟨rfl,rfl,rfl,rfl,rfl,rfl,rfl,rfl,trivial⟩ (fun _ w=>((.k (.k (.k (.k (.k (.k (.k (.k (.k .z))))))))):qE _ _).sat w)
              · replace h1 := dG hb7 h1
                refine St.gOn (dj:=43) rfl rfl ?_
                refine St.loadB 0 rfl rfl (.tail _ (.tail _ (.tail _ (.head _)))) rfl rfl ?_
                refine St.gOn (dj:=43) rfl rfl ?_
                refine St.p rfl rfl ?_
                refine St.gOn (dj:=43) rfl rfl ?_
                obtain ⟨r1,hr1,h1⟩:=zES h1
                refine St.callV (zBS hr1) zXj rfl rfl rfl rfl ⟨(.tail _ (.tail _ (.tail _ (.tail _ (.tail _ (.tail _ (.head _))))))),(.tail _ (.tail _ (.tail _ (.tail _ (.tail _ (.tail _ (.tail _ (.head _)))))))),(.tail _ (.tail _ (.tail _ (.tail _ (.tail _ (.tail _ (.tail _ (.tail _ (.head _))))))))),trivial⟩ ?_
                refine St.gOn (dj:=43) rfl rfl ?_
                refine St.p rfl rfl ?_
                refine St.p rfl rfl ?_
                refine St.done ?_
                refine St.thenN ?_
                refine St.cond _ rfl (fun hb8=>?_) (fun hb8=>?_)
                · replace h1 := dR hb8 h1
                  refine St.exit ?_
                  repeat (first | refine St.thenX ?_ | refine St.blkMiss rfl ?_)
                  refine St.blkHit ?_
                  refine St.thenN ?_
                  refine St.region ?_
                  iterate 2 refine St.p rfl rfl ?_
                  refine St.done ?_
                  injection h1 with h1
                  subst h1
                  refine St.thenN ?_
                  exact St.again _ () hm1 trivial ⟨rfl,rfl,rfl,rfl,rfl,rfl,rfl,rfl,trivial⟩ (fun _ w=>((.k (.k (.k (.k (.k (.k (.k (.k (.k .z))))))))):qE _ _).sat w)
                · replace h1 := dG hb8 h1
                  obtain ⟨l1,hl2,h2⟩:=zES h1
                  have hz1:=(zCN hl2).1
                  subst hz1
                  obtain ⟨r2,hr2,h3⟩:=zES h2
                  refine St.skip ?_
                  refine St.thenN ?_
                  refine St.seq ?_
                  refine St.regionX (iL [(.fl,0),(.fl,1),(.fl,2),(.fl,3),(.ef,4),(.ef,5),(.ef,6),(.fl,7),(.fl,8),(.fl,9),(.fl,10),(.fl,11)] .nil) (.res (Box gb1 3 [.int .i64 full]):: .res (Box gb2 83 [.slice A1 p.Now.length c1, .slice A2 p.Next.length c2, .slice A3 p.Needs.length c3]):: .res (Box gb3 181 [.map (some gm)]):: .res (Box gb4 182 [.func (.func 98) #[] #[.pointer (some ⟨gb1,0,none⟩), .pointer (some ⟨gb2,0,none⟩), .pointer (some ⟨gb3,0,none⟩), .pointer (some ⟨gb4,0,none⟩)]]):: .ro (SlL zJ A1 c1 p.Now):: .ro (SlL zJ A2 c2 p.Next):: .ro (SlL zR A3 c3 p.Needs)::R) mixed (by kernel_rfl) (fun _ w=>((.d (.d (.k (.k (.k (.k (.k (.k (.k .z))))))))):qE _ _).sat w) ?_
                  refine St.xfl (fun _ h=>h) (Rd.loadB 0 rfl (.tail _ (.tail _ (.tail _ (.head _)))) rfl rfl) rfl ?_
                  iterate 3 refine St.xfl (fun _ h=>h) (Rd.p rfl) rfl ?_
                  refine St.xef ?_
                  refine St.buildSlice rfl rfl rfl rfl rfl rfl rfl rfl fun g5=>?_
                  refine St.xk (fun _ w=>((.d (.d (.d (.k (.k (.k (.k (.k (.k (.k .z)))))))))):qE _ _).sat w) ?_
                  refine St.xef ?_
                  refine St.appK (E:=yH) hl2 rfl rfl rfl (.s (.s .z)) rfl rfl rfl rfl rfl rfl rfl rfl (eO (.head _) rfl rfl) rfl rfl ?_ (fun A4 c4=>?_)
                  · refine St.xk (fun _ w => ((.d (.d (.d (.k (.k (.k (.k (.k (.k (.k .z)))))))))) : qE _ _).sat w) ?_
                    refine St.xef ?_
                    refine St.callC (args:= [.int .i64 (iOr .i64 set q1), .slice A (order++ [s1.1]).length c]) (us:= [.pointer (some ⟨gb1,0,none⟩), .pointer (some ⟨gb2,0,none⟩), .pointer (some ⟨gb3,0,none⟩), .pointer (some ⟨gb4,0,none⟩)]) (zNx n_ (A:=A) (c:=c) hr2) zRn rfl rfl rfl (fun _ w=>Sat.dup (G:= [.ro (SlL zJ A1 c1 p.Now), .ro (SlL zJ A2 c2 p.Next), .ro (SlL zR A3 c3 p.Needs)]) rfl ⟨(.tail _ (.tail _ (.tail _ (.tail _ (.tail _ (.tail _ (.tail _ (.head _)))))))),(.tail _ (.tail _ (.tail _ (.tail _ (.tail _ (.tail _ (.tail _ (.tail _ (.head _))))))))),(.tail _ (.tail _ (.tail _ (.tail _ (.tail _ (.tail _ (.tail _ (.tail _ (.tail _ (.head _)))))))))),trivial⟩ ((((((w.front (.s (.s (.s (.s (.s (.s .z))))))).front (.s (.s (.s (.s (.s (.s .z))))))).front (.s (.s (.s (.s (.s (.s .z))))))).front (.s (.s (.s (.s (.s (.s .z))))))).front (.s (.s (.s (.s .z))))).front (.s (.s (.s (.s (.s (.s .z)))))))) ?_
                    rintro _ _ ⟨A5,c5,rfl,rfl⟩
                    refine St.asrt (F':=.res (nC (yF .i64) (fun x=>.bool x) gm r2.1)::(bif r2.2.2 then .res (zM yH 3 A5 c5 r2.2.1) else .res (zM yH 3 A c (order++ [s1.1]))):: .res (Box gb1 3 [.int .i64 full]):: .res (Box gb2 83 [.slice A1 p.Now.length c1, .slice A2 p.Next.length c2, .slice A3 p.Needs.length c3]):: .res (Box gb3 181 [.map (some gm)]):: .res (Box gb4 182 [.func (.func 98) #[] #[.pointer (some ⟨gb1,0,none⟩), .pointer (some ⟨gb2,0,none⟩), .pointer (some ⟨gb3,0,none⟩), .pointer (some ⟨gb4,0,none⟩)]]):: .res (Box g5 3 [.int .i64 s1.1]):: .ro (SlL zJ A1 c1 p.Now):: .ro (SlL zJ A2 c2 p.Next):: .ro (SlL zR A3 c3 p.Needs)::R) (fun _ w=>w) ?_
                    refine St.xk (fun _ w=>(((.d (.d (.k (.k (.k (.k (.d (.k (.k (.k .z)))))))))):qE _ _).sat w)) ?_
                    refine St.xfl (fun _ h=>h) (Rd.p rfl) rfl ?_
                    refine St.xfl (fun _ h=>h) (Rd.p rfl) rfl ?_
                    refine St.xfl (fun _ h=>h) (Rd.p rfl) rfl ?_
                    refine St.xfl (fun _ h=>h) (Rd.p rfl) rfl ?_
                    refine St.xfl (fun _ h=>h) (Rd.p rfl) rfl ?_
                    refine St.xdone ?_
                    refine St.thenN ?_
                    refine St.seq ?_
                    refine St.region ?_
                    refine St.p rfl rfl ?_
                    refine St.done ?_
                    refine St.thenN ?_
                    refine St.cond _ rfl (fun hb9=>?_) (fun hb9=>?_)
                    · replace h3 := dR hb9 h3
                      refine St.seq ?_
                      refine St.region ?_
                      iterate 3 refine St.p rfl rfl ?_
                      refine St.done ?_
                      refine St.thenN ?_
                      refine St.ret ?_
                      repeat (first | refine St.thenR ?_ | refine St.blkR ?_)
                      injection h3 with h3
                      subst h3
                      have ho:=hd1 _ rfl
                      subst ho
                      have h:some _=some _:=h
                      injection h with h
                      subst h
                      refine St.asrt (F':=.res (nC (yF .i64) (fun x=>.bool x) gm r2.1):: .res (zM yH 3 A5 c5 r2.2.1):: .res (Box gb1 3 [.int .i64 full]):: .res (Box gb2 83 [.slice A1 p.Now.length c1, .slice A2 p.Next.length c2, .slice A3 p.Needs.length c3]):: .res (Box gb3 181 [.map (some gm)]):: .res (Box gb4 182 [.func (.func 98) #[] #[.pointer (some ⟨gb1,0,none⟩), .pointer (some ⟨gb2,0,none⟩), .pointer (some ⟨gb3,0,none⟩), .pointer (some ⟨gb4,0,none⟩)]]):: .res (Box g5 3 [.int .i64 s1.1]):: .ro (SlL zJ A1 c1 p.Now):: .ro (SlL zJ A2 c2 p.Next):: .ro (SlL zR A3 c3 p.Needs)::R) (fun _ w=>by rw [hb9] at w; exact w) ?_
                      exact St.finR Tryz.results98 (.tmp rfl (.tmp rfl .nil)) rfl [.res (nC (yF .i64) (fun x=>.bool x) gm r2.1), .res (zM yH 3 A5 c5 r2.2.1), .res (Box gb1 3 [.int .i64 full]), .res (Box gb2 83 [.slice A1 p.Now.length c1, .slice A2 p.Next.length c2, .slice A3 p.Needs.length c3]), .res (Box gb3 181 [.map (some gm)]), .res (Box gb4 182 [.func (.func 98) #[] #[.pointer (some ⟨gb1,0,none⟩), .pointer (some ⟨gb2,0,none⟩), .pointer (some ⟨gb3,0,none⟩), .pointer (some ⟨gb4,0,none⟩)]])] ⟨A5,c5,rfl,rfl⟩ (fun _ w=>((.k (.k (.k (.k (.k (.k (.d (.d (.d (.d .z)))))))))):qE _ _).sat w)
                    · replace h3 := dG hb9 h3
                      refine St.skip ?_
                      skip
                      refine St.blkN ?_
                      refine St.thenN ?_
                      refine St.region ?_
                      iterate 2 refine St.p rfl rfl ?_
                      refine St.done ?_
                      injection h3 with h3
                      subst h3
                      refine St.asrt (F':=.res (nC (yF .i64) (fun x=>.bool x) gm r2.1):: .res (zM yH 3 A c (order++ [s1.1])):: .res (Box gb1 3 [.int .i64 full]):: .res (Box gb2 83 [.slice A1 p.Now.length c1, .slice A2 p.Next.length c2, .slice A3 p.Needs.length c3]):: .res (Box gb3 181 [.map (some gm)]):: .res (Box gb4 182 [.func (.func 98) #[] #[.pointer (some ⟨gb1,0,none⟩), .pointer (some ⟨gb2,0,none⟩), .pointer (some ⟨gb3,0,none⟩), .pointer (some ⟨gb4,0,none⟩)]]):: .res (Box g5 3 [.int .i64 s1.1]):: .ro (SlL zJ A1 c1 p.Now):: .ro (SlL zJ A2 c2 p.Next):: .ro (SlL zR A3 c3 p.Needs)::R) (fun _ w=>by rw [hb9] at w; exact w) ?_
                      refine St.thenN ?_
                      exact St.again _ () hm1 trivial ⟨rfl,rfl,rfl,rfl,rfl,rfl,rfl,rfl,trivial⟩ (fun _ w=>((.k (.k (.k (.k (.k (.k (.d (.k (.k (.k .z)))))))))):qE _ _).sat ((Sat.shrink (w.front (.s .z))).front (.s .z)))
                  · refine St.xk (fun _ w => ((.d (.d (.d (.d (.k (.k (.k (.k (.k (.k (.k .z))))))))))) : qE _ _).sat w) ?_
                    refine St.xef ?_
                    refine St.callC (args:= [.int .i64 (iOr .i64 set q1), .slice A4 (order++ [s1.1]).length c4]) (us:= [.pointer (some ⟨gb1,0,none⟩), .pointer (some ⟨gb2,0,none⟩), .pointer (some ⟨gb3,0,none⟩), .pointer (some ⟨gb4,0,none⟩)]) (zNx n_ (A:=A4) (c:=c4) hr2) zRn rfl rfl rfl (fun _ w=>Sat.dup (G:= [.ro (SlL zJ A1 c1 p.Now), .ro (SlL zJ A2 c2 p.Next), .ro (SlL zR A3 c3 p.Needs)]) rfl ⟨(.tail _ (.tail _ (.tail _ (.tail _ (.tail _ (.tail _ (.tail _ (.tail _ (.head _))))))))),(.tail _ (.tail _ (.tail _ (.tail _ (.tail _ (.tail _ (.tail _ (.tail _ (.tail _ (.head _)))))))))),(.tail _ (.tail _ (.tail _ (.tail _ (.tail _ (.tail _ (.tail _ (.tail _ (.tail _ (.tail _ (.head _))))))))))),trivial⟩ ((((((w.front (.s (.s (.s (.s (.s (.s (.s .z)))))))).front (.s (.s (.s (.s (.s (.s (.s .z)))))))).front (.s (.s (.s (.s (.s (.s (.s .z)))))))).front (.s (.s (.s (.s (.s (.s (.s .z)))))))).front (.s (.s (.s (.s .z))))).front (.s (.s (.s (.s (.s (.s (.s .z))))))))) ?_
                    rintro _ _ ⟨A5,c5,rfl,rfl⟩
                    refine St.asrt (F':=.res (nC (yF .i64) (fun x=>.bool x) gm r2.1)::(bif r2.2.2 then .res (zM yH 3 A5 c5 r2.2.1) else .res (zM yH 3 A4 c4 (order++ [s1.1]))):: .res (Box gb1 3 [.int .i64 full]):: .res (Box gb2 83 [.slice A1 p.Now.length c1, .slice A2 p.Next.length c2, .slice A3 p.Needs.length c3]):: .res (Box gb3 181 [.map (some gm)]):: .res (Box gb4 182 [.func (.func 98) #[] #[.pointer (some ⟨gb1,0,none⟩), .pointer (some ⟨gb2,0,none⟩), .pointer (some ⟨gb3,0,none⟩), .pointer (some ⟨gb4,0,none⟩)]]):: .res (zM yH 3 A c order):: .res (Box g5 3 [.int .i64 s1.1]):: .ro (SlL zJ A1 c1 p.Now):: .ro (SlL zJ A2 c2 p.Next):: .ro (SlL zR A3 c3 p.Needs)::R) (fun _ w=>w) ?_
                    refine St.xk (fun _ w=>(((.d (.d (.k (.k (.k (.k (.d (.d (.k (.k (.k .z))))))))))):qE _ _).sat w)) ?_
                    refine St.xfl (fun _ h=>h) (Rd.p rfl) rfl ?_
                    refine St.xfl (fun _ h=>h) (Rd.p rfl) rfl ?_
                    refine St.xfl (fun _ h=>h) (Rd.p rfl) rfl ?_
                    refine St.xfl (fun _ h=>h) (Rd.p rfl) rfl ?_
                    refine St.xfl (fun _ h=>h) (Rd.p rfl) rfl ?_
                    refine St.xdone ?_
                    refine St.thenN ?_
                    refine St.seq ?_
                    refine St.region ?_
                    refine St.p rfl rfl ?_
                    refine St.done ?_
                    refine St.thenN ?_
                    refine St.cond _ rfl (fun hb9=>?_) (fun hb9=>?_)
                    · replace h3 := dR hb9 h3
                      refine St.seq ?_
                      refine St.region ?_
                      iterate 3 refine St.p rfl rfl ?_
                      refine St.done ?_
                      refine St.thenN ?_
                      refine St.ret ?_
                      repeat (first | refine St.thenR ?_ | refine St.blkR ?_)
                      injection h3 with h3
                      subst h3
                      have ho:=hd1 _ rfl
                      subst ho
                      have h:some _=some _:=h
                      injection h with h
                      subst h
                      refine St.asrt (F':=.res (nC (yF .i64) (fun x=>.bool x) gm r2.1):: .res (zM yH 3 A5 c5 r2.2.1):: .res (Box gb1 3 [.int .i64 full]):: .res (Box gb2 83 [.slice A1 p.Now.length c1, .slice A2 p.Next.length c2, .slice A3 p.Needs.length c3]):: .res (Box gb3 181 [.map (some gm)]):: .res (Box gb4 182 [.func (.func 98) #[] #[.pointer (some ⟨gb1,0,none⟩), .pointer (some ⟨gb2,0,none⟩), .pointer (some ⟨gb3,0,none⟩), .pointer (some ⟨gb4,0,none⟩)]]):: .res (zM yH 3 A c order):: .res (Box g5 3 [.int .i64 s1.1]):: .ro (SlL zJ A1 c1 p.Now):: .ro (SlL zJ A2 c2 p.Next):: .ro (SlL zR A3 c3 p.Needs)::R) (fun _ w=>by rw [hb9] at w; exact w) ?_
                      exact St.finR Tryz.results98 (.tmp rfl (.tmp rfl .nil)) rfl [.res (nC (yF .i64) (fun x=>.bool x) gm r2.1), .res (zM yH 3 A5 c5 r2.2.1), .res (Box gb1 3 [.int .i64 full]), .res (Box gb2 83 [.slice A1 p.Now.length c1, .slice A2 p.Next.length c2, .slice A3 p.Needs.length c3]), .res (Box gb3 181 [.map (some gm)]), .res (Box gb4 182 [.func (.func 98) #[] #[.pointer (some ⟨gb1,0,none⟩), .pointer (some ⟨gb2,0,none⟩), .pointer (some ⟨gb3,0,none⟩), .pointer (some ⟨gb4,0,none⟩)]])] ⟨A5,c5,rfl,rfl⟩ (fun _ w=>((.k (.k (.k (.k (.k (.k (.d (.d (.d (.d (.d .z))))))))))):qE _ _).sat w)
                    · replace h3 := dG hb9 h3
                      refine St.skip ?_
                      skip
                      refine St.blkN ?_
                      refine St.thenN ?_
                      refine St.region ?_
                      iterate 2 refine St.p rfl rfl ?_
                      refine St.done ?_
                      injection h3 with h3
                      subst h3
                      refine St.asrt (F':=.res (nC (yF .i64) (fun x=>.bool x) gm r2.1):: .res (zM yH 3 A4 c4 (order++ [s1.1])):: .res (Box gb1 3 [.int .i64 full]):: .res (Box gb2 83 [.slice A1 p.Now.length c1, .slice A2 p.Next.length c2, .slice A3 p.Needs.length c3]):: .res (Box gb3 181 [.map (some gm)]):: .res (Box gb4 182 [.func (.func 98) #[] #[.pointer (some ⟨gb1,0,none⟩), .pointer (some ⟨gb2,0,none⟩), .pointer (some ⟨gb3,0,none⟩), .pointer (some ⟨gb4,0,none⟩)]]):: .res (zM yH 3 A c order):: .res (Box g5 3 [.int .i64 s1.1]):: .ro (SlL zJ A1 c1 p.Now):: .ro (SlL zJ A2 c2 p.Next):: .ro (SlL zR A3 c3 p.Needs)::R) (fun _ w=>by rw [hb9] at w; exact w) ?_
                      refine St.thenN ?_
                      exact St.again _ () hm1 trivial ⟨rfl,rfl,rfl,rfl,rfl,rfl,rfl,rfl,trivial⟩ (fun _ w=>((.k (.k (.k (.k (.k (.k (.k (.k (.k (.d (.d .z))))))))))):qE _ _).sat (((((((((w.front (.s (.s (.s (.s (.s (.s (.s (.s (.s (.s .z))))))))))).front (.s (.s (.s (.s (.s (.s (.s (.s (.s (.s .z))))))))))).front (.s (.s (.s (.s (.s (.s (.s (.s (.s (.s .z))))))))))).front (.s (.s (.s (.s (.s (.s (.s (.s .z))))))))).front (.s (.s (.s (.s (.s (.s (.s (.s .z))))))))).front (.s (.s (.s (.s (.s (.s (.s (.s .z))))))))).front (.s (.s (.s (.s (.s (.s (.s (.s .z))))))))).front (.s (.s (.s (.s (.s (.s (.s (.s (.s .z)))))))))).front (.s (.s (.s (.s (.s (.s (.s (.s .z))))))))))
        · replace h1 := dG hb4 h1
          refine St.exit ?_
          repeat (first | refine St.thenX ?_ | refine St.blkMiss rfl ?_)
          refine St.blkHit ?_
          injection h1 with h1
          subst h1
          have ho:=hd1 _ rfl
          subst ho
          refine St.thenN ?_
          exact St.hereI s1.2 () rfl ⟨rfl,rfl,trivial⟩ (fun _ w=>w)
      · rintro o3 e3 ho
        subst ho
        have h:_=some _:=h
        refine St.seq ?_
        refine St.region ?_
        refine St.loadB 0 rfl rfl (.tail _ (.tail _ (.tail _ (.tail _ (.head _))))) rfl rfl ?_
        refine St.p rfl rfl ?_
        refine St.mapUpdate (K:=(yF .i64)) (vv:=(fun x=>.bool x)) set true rfl rfl rfl .z rfl rfl rfl rfl ?_
        refine St.done ?_
        refine St.thenN ?_
        refine St.seq ?_
        refine St.region ?_
        iterate 2 refine St.p rfl rfl ?_
        refine St.done ?_
        refine St.thenN ?_
        refine St.ret ?_
        repeat (first | refine St.thenR ?_ | refine St.blkR ?_)
        have h:some _=some _:=h
        injection h with h
        subst h
        exact St.finR Tryz.results98 (.tmp rfl (.tmp rfl .nil)) rfl [.res (nC (yF .i64) (fun x=>.bool x) gm (nD (yF .i64).eq o3 set true)), .res (zM yH 3 A c order), .res (Box gb1 3 [.int .i64 full]), .res (Box gb2 83 [.slice A1 p.Now.length c1, .slice A2 p.Next.length c2, .slice A3 p.Needs.length c3]), .res (Box gb3 181 [.map (some gm)]), .res (Box gb4 182 [.func (.func 98) #[] #[.pointer (some ⟨gb1,0,none⟩), .pointer (some ⟨gb2,0,none⟩), .pointer (some ⟨gb3,0,none⟩), .pointer (some ⟨gb4,0,none⟩)]])] ⟨none,0,rfl,rfl⟩ (fun _ w=>((.k (.k (.k (.k (.k (.k (.d (.d (.d .z))))))))):qE _ _).sat w)
def aI:Nat:=1000
noncomputable def uW (p:xE):Option (List Int × Int):=
 bnd (sV p) fun r1=>bif (r1 != 0) then some ([],r1) else
 bnd (qS p) fun r2=>bnd (aL r2 p aI [] 0 []) fun r3=>bif !r3.2.2 then some ([],41) else some (r3.2.1,0)
theorem zXG:Ent Tryz.prog 40:=en Tryz.func40 (by kernel_rfl)
theorem zBr {p:xE} {A1:Option Addr} {c1:Nat} {A2:Option Addr} {c2:Nat} {A3:Option Addr} {c3:Nat} {r:List Int × Int} (h:uW p=some r):
    Fun Tryz.prog 40 [.agg #[.slice A1 p.Now.length c1, .slice A2 p.Next.length c2, .slice A3 p.Needs.length c3]] [.ro (SlL zJ A1 c1 p.Now), .ro (SlL zJ A2 c2 p.Next), .ro (SlL zR A3 c3 p.Needs)] (fun v_ F_=>∃ (A_:Option Addr) (c_:Nat),v_= .tuple #[.slice A_ r.1.length c_, .int .i64 r.2]∧F_= [.res (zM yH 3 A_ c_ r.1)]):=by
 refine Fun.intro Tryz.func40 rfl rfl rfl fun w R=>?_;refine .seq<|.region<|.box rfl rfl fun gb2=>.be rfl<|.seq<|.seq<|.region<|.lb 0 0 rfl<|.bd h fun r1 hr1 h=>.cv [1,2,3] (fH hr1) zUR rfl<|.be rfl<|.ae rfl<|.cb h rfl (fun h=>?_) (fun h=>?_)
 ·refine .ae rfl<|.asrt (fun _ w=>w.nilL yH 3) ?_;cases h;exact .rv rfl rfl ⟨none,0,rfl,rfl⟩ (zl [0] 4 rfl)
 refine .sk<|.seq<|.region<|.lb 0 0 rfl<|.bd h fun r2 hr2 h=>.cv [1,2,3] (dH hr2) zUM rfl<|.alloc rfl rfl fun gb1=>.sb 0 0 rfl<|.done<|.thenN<|.seq<|.region<|.makeMap (K:=(yF .i64)) (vv:=(fun x=>.bool x)) rfl fun gm=>.alloc rfl rfl fun gb3=>.sb 0 0 rfl<|.done<|.thenN<|.seq<|.region<|.alloc rfl rfl fun gb4=>.done<|.thenN<|.a 1 rfl<|.sb 0 0 rfl<|.done<|.thenN<|.seq<|.region<|.lb 0 0 rfl<|.bd h fun r3 hr3 h=>.asrt (fun _ w=>w.nilL yH 3)<|.callC (args:= [.int .i64 0, .slice none ([]:List Int).length 0]) (us:= [.pointer (some ⟨gb1,0,none⟩), .pointer (some ⟨gb2,0,none⟩), .pointer (some ⟨gb3,0,none⟩), .pointer (some ⟨gb4,0,none⟩)]) (zNx aI (A:=none) (c:=0) hr3) zRn rfl rfl rfl (zd [6,7,8] [3,0,2,2,1] 0 rfl) ?_;rintro _ _ ⟨A5,c5,rfl,rfl⟩;refine .nm 9 rfl<|.be rfl<|.seq<|.ae rfl ?_;cases hb2:r3.2.2
 ·rw [hb2] at h
  refine .condT rfl<|.ae rfl<|.asrt (fun _ w=>w.nilL yH 3) ?_;cases h;exact .rv rfl rfl ⟨none,0,rfl,rfl⟩ (zl [0] 9 rfl)
 rw [hb2] at h
 refine .condF rfl<|.sk<|.nm 9 rfl<|.ae rfl ?_;cases h;exact .rv rfl rfl ⟨A5,c5,rfl,rfl⟩ (zl [1] 8 rfl)
theorem zXQ:Ent Tryz.prog 80:=en Tryz.func80 (by kernel_rfl)
noncomputable def pI (p_p0:xE):Option (List Int):=
 bnd (sV p_p0) fun r1=>bif (r1 != 0) then (some ([])) else (bnd (qS p_p0) fun r2=>bnd (yG (τ:=List Int) (fun (s1:List Int × Int × Int)=>bif decide (s1.2.2>0) then (bif ((rK .i64 s1.2.2 1)==1) then (bnd (app 8 s1.1 [s1.2.1]) fun l1=>some (.next (l1,IntKind.wrap .i64 (s1.2.1+1),uD .i64 s1.2.2 1))) else (some (.next (s1.1,IntKind.wrap .i64 (s1.2.1+1),uD .i64 s1.2.2 1)))) else (some (.done s1.1))) ([],0,r2)) fun o1=>some o1)
theorem zBo {p_p0 A1 c1 A2 c2 A3 c3 r} (h:pI p_p0=some r):
    Fun Tryz.prog 80 [.agg #[.slice A1 p_p0.Now.length c1, .slice A2 p_p0.Next.length c2, .slice A3 p_p0.Needs.length c3]] [.ro (SlL zJ A1 c1 p_p0.Now), .ro (SlL zJ A2 c2 p_p0.Next), .ro (SlL zR A3 c3 p_p0.Needs)] (fun v F=>∃ A4 c4,v= .slice A4 r.length c4∧F= [.res (zM yH 3 A4 c4 r)]):=by
 refine Fun.intro Tryz.func80 rfl rfl rfl fun w R=>?_;refine .seq<|.region<|.box rfl rfl fun g1=>.b [1] rfl<|.seq<|.seq<|.region<|.lb 0 0 rfl<|.bd h fun r1 hr1 h=>.cv [1,2,3] (fH hr1) zUR rfl<|.b [1,8] rfl<|.cb h rfl (fun h=>?_) (fun h=>?_)
 ·refine .abf [2] [] 4 rfl rfl<|.asrt (fun _ w=>w.nilL yH 3) ?_;cases h;exact .rv rfl rfl ⟨none,0,rfl,rfl⟩ zw
 refine .sk<|.pr [1] rfl<|.ae rfl<|.seq<|.seq<|.region<|.lb 0 0 rfl<|.bd h fun r2 hr2 h=>.cv [1,2,3] (dH hr2) zUM rfl<|.bf [3,4,5] [] 4 rfl rfl<|.asrt (fun _ w=>w.nilL yH 3)<|.bd h fun o1 hl1 h=>.cutK 1 (fun (e2:Option Addr × Nat)=>[.s 3 (.slice e2.1 o1.length e2.2)]) (fun e2=>[.res (zM yH 3 e2.1 e2.2 o1)]) rfl rfl ?_ ?_
 ·refine .block<|.loopQ hl1 1 (fun (s1:List Int × Int × Int) (e1:Option Addr × Nat)=>[.s 3 (.slice e1.1 s1.1.length e1.2), .s 4 (.int .i64 s1.2.1), .s 5 (.int .i64 s1.2.2)]) (fun s1 e1=>[.res (zM yH 3 e1.1 e1.2 s1.1)]) rfl rfl (none,0) (zb rfl) (fun _ w=>w) ?_;rintro s1 ⟨A4,c4⟩ st1 hm1 hd1 h1;refine .seq<|.ab [3,4,5,12] rfl<|.cb h1 rfl (fun h1=>?_) (fun h1=>?_)
  ·refine .sk<|.pr [3,4,5] rfl<|.seq<|.block<|.ab [3,4,5,19] rfl<|.cb h1 rfl (fun h1=>?_) (fun h1=>?_)
   ·refine .region<|.n 2 rfl<|.bS rfl fun g2=>.bd h1 fun l1 hl1 h1=>.app (E:=yH) hl1 rfl rfl rfl (.s .z) rfl rfl rfl rfl rfl rfl rfl rfl (eO (.head _) rfl rfl) rfl rfl fun A6 c6=>.p rfl rfl<|.done<|.blkN<|.thenN<|.pf [3,4,5] [0] 1 rfl rfl<|.region ?_;cases h1;exact .be rfl<|.ag (A6,c6) hm1 rfl zw
   refine .skip<|.blkN<|.thenN<|.pr [3,4,5] rfl<|.region ?_;cases h1;exact .be rfl<|.ag (A4,c4) hm1 rfl zw
  refine .xq rfl ?_;cases h1;cases hd1 _ rfl
  exact .thenN<|.hE (A4,c4) rfl zw
 rintro ⟨A5,c5⟩;refine .ab [2] rfl ?_;cases h;exact .rv rfl rfl ⟨A5,c5,rfl,rfl⟩ zw
theorem zXs:Ent Tryz.prog 85:=en Tryz.func85 (by kernel_rfl)
noncomputable def mJ (i_p0:zH) (cap0:ByteArray):Option Bool:=
 some (i_p0.Name.toList==cap0.toList)
theorem zEr {i_p0 cap0 A1 c1 gb1 r} (h:mJ i_p0 cap0=some r):
    Fun Tryz.prog 85 [.agg (xJ i_p0 A1 c1).toArray, .pointer (some ⟨gb1,0,none⟩)] [.ro (SlL eu8 A1 c1 i_p0.Data), .res (Box gb1 9 [.string cap0])] (fun v F=>v= .bool r∧F= [.res (Box gb1 9 [.string cap0])]):=by
 unfold mJ at h
 refine Fun.intro Tryz.func85 rfl rfl rfl fun w R=>?_;refine .seq<|.region<|.box rfl rfl fun g1=>.b [1,2] rfl<|.a 1 rfl<|.lb 0 0 rfl<|.lb 0 2 rfl<|.bf [3] [] 2 rfl rfl ?_;cases h;exact .rv rfl rfl ⟨rfl,rfl⟩ zw
theorem zXf:Ent Tryz.prog 84:=en Tryz.func84 (by kernel_rfl)
noncomputable def wH (s_p0:(List zH)) (f_p1_c0:ByteArray):Option Int:=
 bnd (yG (τ:=Int ⊕ Unit) (fun (s1:Int)=>bif decide (s1<(s_p0.length:Int)) then (bnd (elt s_p0 s1) fun x1=>bnd (mJ x1 f_p1_c0) fun r1=>bif r1 then (some (.done (.inl s1))) else (some (.next (IntKind.wrap .i64 (s1+1))))) else (some (.done (.inr ())))) 0) fun o1=>wT o1 fun o2=>some (-1)
theorem qU {s_p0 f_p1_c0 A1 c1 gb1 r} (h:wH s_p0 f_p1_c0=some r):
    Fun Tryz.prog 84 [.slice A1 s_p0.length c1, .func (.func 85) #[] #[.pointer (some ⟨gb1,0,none⟩)]] [.ro (Sl (yL xC) A1 c1 s_p0), .res (Box gb1 9 [.string f_p1_c0])] (fun v F=>v= .int .i64 r∧F= [.res (Box gb1 9 [.string f_p1_c0])]):=by
 refine Fun.intro Tryz.func84 rfl rfl rfl fun w R=>?_;refine .ab [0,1] rfl<|.seq<|.ab [0,1,7,8] rfl<|.bd h fun o1 hl1 h=>.cutJ 1 (fun (o2:Unit) (e2:Unit)=>[]) (fun o2 e2=>[]) rfl rfl (fun o2=>o1= .inr o2) ?_ ?_
 ·refine .block<|.loopQ hl1 0 (fun (s1:Int) (e1:Unit)=>[0,1,7, .s 8 (.int .i64 s1)]) (fun s1 e1=>[]) rfl rfl () (zb rfl) (fun _ w=>w) ?_;rintro s1 e1 st1 hm1 hd1 h1;refine .ae rfl<|.seq<|.cb h1 rfl (fun h1=>?_) (fun h1=>?_)
  ·refine .sk<|.pr [0,1,7,8] rfl<|.seq<|.block<|.ab [0,1,5,7,8] rfl<|.a 3 rfl<|.bd h1 fun x1 hx1 h1=>.ix3 hx1 0 rfl fun b1 ob1 ex1=>?_;obtain ⟨⟨A2,c2⟩,_⟩:=ex1;refine .nm 4 rfl<|.ld ob1 0 0 rfl<|.bd h1 fun r1 hr1 h1=>.callC (args:= [.agg (xJ x1 A2 c2).toArray]) (us:= [.pointer (some ⟨gb1,0,none⟩)]) (zEr hr1) zXs rfl rfl rfl (zd [2] [3] 0 rfl) ?_;rintro _ _ ⟨rfl,rfl⟩;refine .nm 4 rfl<|.bf [0,1,5,7,8,16] [0] 2 rfl rfl<|.cb h1 rfl (fun h1=>?_) (fun h1=>?_)
   ·refine .abf [4] [0] 1 rfl rfl ?_;cases h1;cases hd1 _ rfl
    have h:some _=some _:=h;cases h;exact .rv rfl rfl ⟨rfl,rfl⟩ zw
   refine .skip<|.blkN<|.thenN<|.pr [0,1,7,8] rfl<|.region ?_;cases h1;exact .be rfl<|.ag () hm1 rfl (zl [1] 0 rfl)
  refine .xq rfl ?_;cases h1;cases hd1 _ rfl
  exact .thenN<|.hereI () () rfl trivial (zl [] 1 rfl)
 rintro o2 e2 ho;subst ho;have h:=unR h;refine .ae rfl ?_;cases h;exact .rv rfl rfl ⟨rfl,rfl⟩ zw
theorem zXB:Ent Tryz.prog 26:=en Tryz.func26 (by kernel_rfl)
noncomputable def nZ (b_p0:zX) (name:ByteArray):Option Int:=
 bnd (wH b_p0.Images name) fun r1=>some r1
theorem zHf {b_p0 name A1 c1 A2 c2 r} (h:nZ b_p0 name=some r):
    Fun Tryz.prog 26 [.agg #[.slice A1 b_p0.Images.length c1, .slice A2 b_p0.Needs.length c2], .string name] [.ro (Sl (yL xC) A1 c1 b_p0.Images), .ro (SlL zR A2 c2 b_p0.Needs)] (Val (.int .i64 r)):=by
 refine Fun.intro Tryz.func26 rfl rfl rfl fun w R=>?_;refine .seq<|.region<|.box rfl rfl fun g1=>.box rfl rfl fun g2=>.b [2,3] rfl<|.a 1 rfl<|.lb 0 1 rfl<|.p rfl rfl<|.bd h fun r1 hr1 h=>.cq 4 [2] [] 0 (qU hr1) zXf rfl<|.bf [4] [] 4 rfl rfl ?_;cases h;exact .rv rfl rfl ⟨rfl,rfl⟩ zw
theorem zOh:Ent Tryz.prog 93:=en Tryz.func93 (by kernel_rfl)
noncomputable def tT (d_p0:zB):Option Int:=
 bnd (uY d_p0) fun r1=>bif !r1 then (some 1) else (bnd ((bif (d_p0.Running != d_p0.Active) then (some true) else (some d_p0.Trial):Option Bool)) fun o1=>bif o1 then (some 46) else (some 0))
theorem mK {d_p0 A1 c1 A2 c2 r} (h:tT d_p0=some r):
    Fun Tryz.prog 93 [.agg (zN d_p0 A1 c1 A2 c2).toArray] [.ro (SlL eu8 A1 c1 d_p0.Slots.e0.Image.Data), .ro (SlL eu8 A2 c2 d_p0.Slots.e1.Image.Data)] (Val (.int .i64 r)):=by
 refine Fun.intro Tryz.func93 rfl rfl rfl fun w R=>?_;refine .seq<|.region<|.box rfl rfl fun g1=>.b [1] rfl<|.seq<|.seq<|.region<|.lb 0 0 rfl<|.bd h fun r1 hr1 h=>.cv [1,2] (pB hr1) zFH rfl<|.b [1,5] rfl<|.cb h rfl (fun h=>?_) (fun h=>?_)
 ·refine .abf [2] [] 3 rfl rfl ?_;cases h;exact .rv rfl rfl ⟨rfl,rfl⟩ zw
 refine .sk<|.pr [1] rfl<|.seq<|.seq<|.bd h fun o1 hj1 h=>.cu 3 [.s 14 (.bool o1)] [] rfl rfl ?_ ?_
 ·refine .region<|.p rfl rfl<|.lb 14 0 rfl<|.p rfl rfl<|.lb 13 0 rfl<|.n 2 rfl<|.gs 11 hj1 rfl (fun hj1=>?_) (fun hj1=>?_)
  ·cases hj1;exact .be rfl<|.hU rfl (zl [] 3 rfl)
  refine .n 1 rfl<|.gOn rfl rfl<|.lb 15 0 rfl ?_;cases hj1;exact .be rfl<|.hU rfl (zl [] 3 rfl)
 refine .cb h rfl (fun h=>?_) (fun h=>?_)
 ·refine .ab [2] rfl ?_;cases h;exact .rv rfl rfl ⟨rfl,rfl⟩ zw
 refine .sk<|.pr [] rfl<|.ae rfl ?_;cases h;exact .rv rfl rfl ⟨rfl,rfl⟩ zw
theorem zVX:Ent Tryz.prog 163:=en Tryz.func163 (by kernel_rfl)
noncomputable def gE (d_p0:zB):Option (zB × Int):=
 bnd (tT d_p0) fun r1=>bif (r1 != 0) then (some ((⟨⟨#[]⟩,(⟨(⟨(⟨⟨#[]⟩,(⟨0,0,0⟩:zK), []⟩:zH),0⟩:yB),(⟨(⟨⟨#[]⟩,(⟨0,0,0⟩:zK), []⟩:zH),0⟩:yB)⟩:(rA yB)),0,0,false⟩:zB),r1)) else (bnd (uX d_p0) fun r2=>bnd (uZ r2) fun r3=>bnd (elt [r2.Slots.e0,r2.Slots.e1] r3) fun x1=>bnd (rA.set r2.Slots r3 (⟨(⟨⟨#[]⟩,(⟨0,0,0⟩:zK), []⟩:zH),0⟩:yB)) fun z1=>some ((⟨r2.Name,z1,r2.Active,r2.Running,r2.Trial⟩:zB),0))
theorem zJD {d_p0 A1 c1 A2 c2 r} (h:gE d_p0=some r):
    Fun Tryz.prog 163 [.agg (zN d_p0 A1 c1 A2 c2).toArray] [.ro (SlL eu8 A1 c1 d_p0.Slots.e0.Image.Data), .ro (SlL eu8 A2 c2 d_p0.Slots.e1.Image.Data)] (fun v F=>∃ A3 c3 A4 c4,v= .tuple #[.agg (zN r.1 A3 c3 A4 c4).toArray, .int .i64 r.2]∧F= [.ro (SlL eu8 A3 c3 r.1.Slots.e0.Image.Data), .ro (SlL eu8 A4 c4 r.1.Slots.e1.Image.Data)]):=by
 refine Fun.intro Tryz.func163 rfl rfl rfl fun w R=>?_;refine .seq<|.region<|.box rfl rfl fun g1=>.alloc rfl rfl fun g2=>.b [1,2] rfl<|.seq<|.seq<|.region<|.lb 0 1 rfl<|.bd h fun r1 hr1 h=>.cv [2,3] (mK hr1) zOh rfl<|.b [1,2,4] rfl<|.ab [1,2,4,9] rfl<|.cb h rfl (fun h=>?_) (fun h=>?_)
 ·refine .a 2 rfl<|.sb 0 0 rfl<|.bf [2,3] [0] 3 rfl rfl<|.asrt (fun _ w=>w.nilSl (cod eu8))<|.asrt (fun _ w=>w.nilSl (cod eu8)) ?_;cases h;exact .rt rfl Tryz.results163 (.cell rfl (.tail _ (.tail _ (.head _))) rfl (.tmp rfl .nil)) rfl ⟨none,0,none,0,rfl,rfl⟩ (zk 2 3 [0,0] [] 0 rfl)
 refine .sk<|.pr [1,2] rfl<|.seq<|.region<|.lb 0 1 rfl<|.bd h fun r2 hr2 h=>.ct 6 [2,3] [] 0 (pV hr2) zFI rfl fun A3 c3 A4 c4=>.alloc rfl rfl fun g3=>.sb 0 0 rfl<|.bf [2,5] [0,0,0,0] 3 rfl rfl<|.seq<|.region<|.bd h fun r3 hr3 h=>.cq 4 [1,2] [] 0 (nM hr3) zHU rfl<|.n 2 rfl<|.bd h fun x1 hx1 h=>.asrt (fun _ w=>w.nilSl (cod eu8))<|.bd h fun z1 hz1 h=>.stP (ls:=oQ) 0 [.string r2.Name] [.int .i64 r2.Active, .int .i64 r2.Running, .bool r2.Trial] [(r2.Slots.e0,((A3,c3),())),(r2.Slots.e1,((A4,c4),()))] (fun ex=>((none,0),())) hx1 (rA.set_e hz1) rfl rfl (.s .z) rfl rfl rfl ⟨(.tail _ (.head _)),(zm 2 rfl),trivial⟩ rfl rfl rfl rfl (fun _=>rfl) (fun _=>⟨(.tail _ (.head _)),trivial⟩) fun ye1 hye1=>?_;obtain ⟨ex1,ex2,rfl⟩:=zMX hye1;obtain ⟨⟨A5,c5⟩,_⟩:=ex1;obtain ⟨⟨A6,c6⟩,_⟩:=ex2;refine .nm 7 rfl<|.bf [2,5] [0,0,0] 3 rfl rfl<|.seq<|.region<|.lb 0 0 rfl<|.sb 0 3 rfl<|.bf [2,3] [0] 1 rfl rfl ?_;cases h;exact .rt rfl Tryz.results163 (.cell rfl (.head _) rfl (.tmp rfl .nil)) rfl ⟨A5,c5,A6,c6,rfl,rfl⟩ (zk 2 3 [1,2] [] 0 rfl)
theorem zVF:Ent Tryz.prog 164:=en Tryz.func164 (by kernel_rfl)
noncomputable def gJ (d_p0:zB) (i_p1:zH) (n_p2:Int):Option (zB × Int):=
 bnd (tT d_p0) fun r1=>bif (r1 != 0) then (some ((⟨⟨#[]⟩,(⟨(⟨(⟨⟨#[]⟩,(⟨0,0,0⟩:zK), []⟩:zH),0⟩:yB),(⟨(⟨⟨#[]⟩,(⟨0,0,0⟩:zK), []⟩:zH),0⟩:yB)⟩:(rA yB)),0,0,false⟩:zB),r1)) else (bnd ((bnd (tC i_p1) fun r2=>bif !r2 then (some true) else (bif !(i_p1.Name.toList==d_p0.Name.toList) then (some true) else (bif decide (n_p2<0) then (some true) else (some (decide (n_p2>(i_p1.Data.length:Int)))))):Option Bool)) fun o1=>bif o1 then (some ((⟨⟨#[]⟩,(⟨(⟨(⟨⟨#[]⟩,(⟨0,0,0⟩:zK), []⟩:zH),0⟩:yB),(⟨(⟨⟨#[]⟩,(⟨0,0,0⟩:zK), []⟩:zH),0⟩:yB)⟩:(rA yB)),0,0,false⟩:zB),2)) else (bnd (uX d_p0) fun r3=>bnd (sub i_p1.Data 0 n_p2) fun l1=>bnd (uZ r3) fun r4=>bnd (pJ (⟨i_p1.Name,i_p1.Version,l1⟩:zH)) fun r5=>bnd (elt [r3.Slots.e0,r3.Slots.e1] r4) fun x1=>bnd (rA.set r3.Slots r4 (⟨r5,0⟩:yB)) fun z1=>some ((⟨r3.Name,z1,r3.Active,r3.Running,r3.Trial⟩:zB),0)))
theorem zIQ {d_p0 i_p1 n_p2 A1 c1 A2 c2 A3 c3 r} (h:gJ d_p0 i_p1 n_p2=some r):
    Fun Tryz.prog 164 [.agg (zN d_p0 A1 c1 A2 c2).toArray, .agg (xJ i_p1 A3 c3).toArray, .int .i64 n_p2] [.ro (SlL eu8 A1 c1 d_p0.Slots.e0.Image.Data), .ro (SlL eu8 A2 c2 d_p0.Slots.e1.Image.Data), .ro (SlL eu8 A3 c3 i_p1.Data)] (fun v F=>∃ A4 c4 A5 c5,v= .tuple #[.agg (zN r.1 A4 c4 A5 c5).toArray, .int .i64 r.2]∧F= [.ro (SlL eu8 A4 c4 r.1.Slots.e0.Image.Data), .ro (SlL eu8 A5 c5 r.1.Slots.e1.Image.Data)]):=by
 refine Fun.intro Tryz.func164 rfl rfl rfl fun w R=>?_;refine .seq<|.region<|.box rfl rfl fun g1=>.box rfl rfl fun g2=>.alloc rfl rfl fun g3=>.b [2,3,4,6] rfl<|.seq<|.seq<|.region<|.lb 0 2 rfl<|.bd h fun r1 hr1 h=>.cv [3,4] (mK hr1) zOh rfl<|.b [2,3,4,6,8] rfl<|.ab [2,3,4,6,8,13] rfl<|.cb h rfl (fun h=>?_) (fun h=>?_)
 ·refine .a 2 rfl<|.sb 0 0 rfl<|.bf [6,7] [0] 5 rfl rfl<|.asrt (fun _ w=>w.nilSl (cod eu8))<|.asrt (fun _ w=>w.nilSl (cod eu8)) ?_;cases h;exact .rt rfl Tryz.results164 (.cell rfl (.tail _ (.tail _ (.head _))) rfl (.tmp rfl .nil)) rfl ⟨none,0,none,0,rfl,rfl⟩ (zk 2 3 [0,0] [] 0 rfl)
 refine .sk<|.pr [2,3,4,6] rfl<|.seq<|.seq<|.bd h fun o1 hj1 h=>.cutK 0 (fun (e1:Unit)=>[2,3,4,6, .s 36 (.bool o1)]) (fun e1=>[]) rfl rfl ?_ ?_
 ·refine .region<|.lb 0 1 rfl<|.bd hj1 fun r2 hr2 hj1=>.cv [5] (oW hr2) zKY rfl<|.n 2 rfl<|.gs 19 hj1 rfl (fun hj1=>?_) (fun hj1=>?_)
  ·cases hj1;exact .be rfl<|.hU rfl zw
  refine .n 1 rfl<|.gOn rfl rfl<|.lb 0 1 rfl<|.n 1 rfl<|.gOn rfl rfl<|.lb 0 2 rfl<|.n 3 rfl<|.gs 26 hj1 rfl (fun hj1=>?_) (fun hj1=>?_)
  ·cases hj1;exact .be rfl<|.hU rfl zw
  refine .n 4 rfl<|.gs 30 hj1 rfl (fun hj1=>?_) (fun hj1=>?_)
  ·cases hj1;exact .be rfl<|.hU rfl zw
  refine .n 2 rfl<|.gOn rfl rfl<|.lb 4 1 rfl ?_;cases hj1;exact .be rfl<|.hU rfl zw
 rintro e1;refine .cb h rfl (fun h=>?_) (fun h=>?_)
 ·refine .a 1 rfl<|.sb 0 0 rfl<|.bf [6,7] [0] 5 rfl rfl<|.asrt (fun _ w=>w.nilSl (cod eu8))<|.asrt (fun _ w=>w.nilSl (cod eu8)) ?_;cases h;exact .rt rfl Tryz.results164 (.cell rfl (.tail _ (.tail _ (.head _))) rfl (.tmp rfl .nil)) rfl ⟨none,0,none,0,rfl,rfl⟩ (zk 2 3 [0,0] [] 0 rfl)
 refine .sk<|.pr [2,3,4,6] rfl<|.seq<|.region<|.lb 0 2 rfl<|.bd h fun r3 hr3 h=>.ct 8 [3,4] [] 0 (pV hr3) zFI rfl fun A4 c4 A5 c5=>.alloc rfl rfl fun g4=>.sb 0 0 rfl<|.bf [2,4,6,9] [0,0,0,0,0] 3 rfl rfl<|.a 1 rfl<|.lb 4 4 rfl<|.p rfl rfl<|.bd h fun l1 hl1 h=>.sub (E:=(cod eu8)) rfl rfl (zm 5 rfl) rfl rfl rfl rfl rfl rfl rfl hl1 fun A6 c6=>.p rfl rfl<|.sb 4 5 rfl<|.bf [4,6,9] [0,0,0,0,0,0] 1 rfl rfl<|.seq<|.regionX (iN [4,3,11,12,16,23] .nil) _ mixed (by kernel_rfl) (zl [0,0] 1 rfl)<|.yl 0 0 rfl<|.xef<|.bd h fun r4 hr4 h=>.cq 6 [3,4] [2] 0 (nM hr4) zHU rfl<|.xk (zl [] 1 rfl)<|.xef<|.bd h fun r5 hr5 h=>.cr 7 [2] [] 0 (gH hr5) zCZ rfl fun A7 c7=>.xk (zl [] 2 rfl)<|.yn 2 rfl<|.xef<|.bd h fun x1 hx1 h=>.bd h fun z1 hz1 h=>.stP (ls:=oQ) 0 [.string r3.Name] [.int .i64 r3.Active, .int .i64 r3.Running, .bool r3.Trial] [(r3.Slots.e0,((A4,c4),())),(r3.Slots.e1,((A5,c5),()))] (fun ex=>((A7,c7),())) hx1 (rA.set_e hz1) rfl rfl (.s .z) rfl rfl rfl ⟨(zm 3 rfl),(zm 4 rfl),trivial⟩ rfl rfl rfl rfl (fun _=>rfl) (fun _=>⟨(.tail _ (.head _)),trivial⟩) fun ye1 hye1=>?_;obtain ⟨ex1,ex2,rfl⟩:=zMX hye1;obtain ⟨⟨A8,c8⟩,_⟩:=ex1;obtain ⟨⟨A9,c9⟩,_⟩:=ex2;refine .nm 9 rfl<|.xk (zl [] 4 rfl)<|.xdone<|.thenN<|.pf [6,9] [0,0,0] 5 rfl rfl<|.seq<|.region<|.lb 0 0 rfl<|.sb 0 3 rfl<|.bf [6,7] [0] 1 rfl rfl ?_;cases h;exact .rt rfl Tryz.results164 (.cell rfl (.head _) rfl (.tmp rfl .nil)) rfl ⟨A8,c8,A9,c9,rfl,rfl⟩ (zk 2 3 [1,2] [] 0 rfl)
theorem zVR:Ent Tryz.prog 165:=en Tryz.func165 (by kernel_rfl)
noncomputable def jO (d_p0:zB) (sum:Int):Option (zB × Int):=
 bnd (tT d_p0) fun r1=>bif (r1 != 0) then (some ((⟨⟨#[]⟩,(⟨(⟨(⟨⟨#[]⟩,(⟨0,0,0⟩:zK), []⟩:zH),0⟩:yB),(⟨(⟨⟨#[]⟩,(⟨0,0,0⟩:zK), []⟩:zH),0⟩:yB)⟩:(rA yB)),0,0,false⟩:zB),r1)) else (bnd (uX d_p0) fun r2=>bnd (uZ r2) fun r3=>bnd (elt [r2.Slots.e0,r2.Slots.e1] r3) fun x1=>bnd (rA.set r2.Slots r3 (⟨x1.Image,sum⟩:yB)) fun z1=>bnd (uZ (⟨r2.Name,z1,r2.Active,r2.Running,r2.Trial⟩:zB)) fun r4=>bnd (elt [z1.e0,z1.e1] r4) fun x2=>bnd (oK (⟨r2.Name,z1,r2.Active,r2.Running,r2.Trial⟩:zB) x2) fun r5=>bif !r5 then (some ((⟨⟨#[]⟩,(⟨(⟨(⟨⟨#[]⟩,(⟨0,0,0⟩:zK), []⟩:zH),0⟩:yB),(⟨(⟨⟨#[]⟩,(⟨0,0,0⟩:zK), []⟩:zH),0⟩:yB)⟩:(rA yB)),0,0,false⟩:zB),5)) else (some ((⟨r2.Name,z1,r2.Active,r2.Running,r2.Trial⟩:zB),0)))
theorem zGV {d_p0 sum A1 c1 A2 c2 r} (h:jO d_p0 sum=some r):
    Fun Tryz.prog 165 [.agg (zN d_p0 A1 c1 A2 c2).toArray, .int .u32 sum] [.ro (SlL eu8 A1 c1 d_p0.Slots.e0.Image.Data), .ro (SlL eu8 A2 c2 d_p0.Slots.e1.Image.Data)] (fun v F=>∃ A3 c3 A4 c4,v= .tuple #[.agg (zN r.1 A3 c3 A4 c4).toArray, .int .i64 r.2]∧F= [.ro (SlL eu8 A3 c3 r.1.Slots.e0.Image.Data), .ro (SlL eu8 A4 c4 r.1.Slots.e1.Image.Data)]):=by
 refine Fun.intro Tryz.func165 rfl rfl rfl fun w R=>?_;refine .seq<|.region<|.box rfl rfl fun g1=>.alloc rfl rfl fun g2=>.b [1,2,4] rfl<|.seq<|.seq<|.region<|.lb 0 1 rfl<|.bd h fun r1 hr1 h=>.cv [2,3] (mK hr1) zOh rfl<|.b [1,2,4,6] rfl<|.ab [1,2,4,6,11] rfl<|.cb h rfl (fun h=>?_) (fun h=>?_)
 ·refine .a 2 rfl<|.sb 0 0 rfl<|.bf [4,5] [0] 3 rfl rfl<|.asrt (fun _ w=>w.nilSl (cod eu8))<|.asrt (fun _ w=>w.nilSl (cod eu8)) ?_;cases h;exact .rt rfl Tryz.results165 (.cell rfl (.tail _ (.tail _ (.head _))) rfl (.tmp rfl .nil)) rfl ⟨none,0,none,0,rfl,rfl⟩ (zk 2 3 [0,0] [] 0 rfl)
 refine .sk<|.pr [1,2,4] rfl<|.seq<|.region<|.lb 0 1 rfl<|.bd h fun r2 hr2 h=>.ct 6 [2,3] [] 0 (pV hr2) zFI rfl fun A3 c3 A4 c4=>.alloc rfl rfl fun g3=>.sb 0 0 rfl<|.bf [1,4,7] [0,0,0,0] 3 rfl rfl<|.seq<|.region<|.bd h fun r3 hr3 h=>.cq 4 [1,2] [] 0 (nM hr3) zHU rfl<|.n 3 rfl<|.bd h fun x1 hx1 h=>.bd h fun z1 hz1 h=>.stP (ls:=oQ) 5 [.string r2.Name] [.int .i64 r2.Active, .int .i64 r2.Running, .bool r2.Trial] [(r2.Slots.e0,((A3,c3),())),(r2.Slots.e1,((A4,c4),()))] (fun ex=>((ex.1.1,ex.1.2),())) hx1 (rA.set_e hz1) rfl rfl .z rfl rfl rfl ⟨(.head _),(.tail _ (.head _)),trivial⟩ rfl rfl rfl rfl (fun _=>rfl) (fun _=>⟨(.head _),trivial⟩) fun ye1 hye1=>?_;obtain ⟨ex1,ex2,rfl⟩:=zMX hye1;obtain ⟨⟨A5,c5⟩,_⟩:=ex1;obtain ⟨⟨A6,c6⟩,_⟩:=ex2;refine .nm 6 rfl<|.bf [4,7] [0,0,0] 2 rfl rfl<|.seq<|.seq<|.regionX (iN [0,7,8,15,19,20] .nil) _ mixed (by kernel_rfl) zw<|.yl 0 0 rfl<|.xef<|.bd h fun r4 hr4 h=>.cq 4 [1,2] [] 0 (nM hr4) zHU rfl<|.xk zw<|.yn 1 rfl<|.xef<|.bd h fun x2 hx2 h=>.ldP (ls:=oQ) 0 [.string r2.Name] [.int .i64 r2.Active, .int .i64 r2.Running, .bool r2.Trial] [(z1.e0,((A5,c5),())),(z1.e1,((A6,c6),()))] (fun ex=>.agg (mZ x2 ex.1.1 ex.1.2).toArray) hx2 rfl rfl (.head _) rfl rfl rfl ⟨(.tail _ (.head _)),(zm 2 rfl),trivial⟩ rfl (fun _=>rfl) fun ex3=>?_;obtain ⟨⟨A7,c7⟩,_⟩:=ex3;refine .nm 5 rfl<|.xk (zl [] 1 rfl)<|.xef<|.bd h fun r5 hr5 h=>.cv [2,3,0] (fL hr5) zLb rfl<|.xk (zl [] 1 rfl)<|.yn 1 rfl<|.xdone<|.thenN<|.pf [4,7,25] [] 1 rfl rfl<|.cb h rfl (fun h=>?_) (fun h=>?_)
 ·refine .a 1 rfl<|.sb 0 3 rfl<|.bf [4,5] [0] 3 rfl rfl<|.asrt (fun _ w=>w.nilSl (cod eu8))<|.asrt (fun _ w=>w.nilSl (cod eu8)) ?_;cases h;exact .rt rfl Tryz.results165 (.cell rfl (.tail _ (.tail _ (.head _))) rfl (.tmp rfl .nil)) rfl ⟨none,0,none,0,rfl,rfl⟩ (zk 2 3 [0,0] [] 0 rfl)
 refine .sk<|.pr [4,7] rfl<|.seq<|.region<|.lb 0 0 rfl<|.sb 0 3 rfl<|.bf [4,5] [0] 1 rfl rfl ?_;cases h;exact .rt rfl Tryz.results165 (.cell rfl (.head _) rfl (.tmp rfl .nil)) rfl ⟨A5,c5,A6,c6,rfl,rfl⟩ (zk 2 3 [1,2] [] 0 rfl)
theorem zXA:Ent Tryz.prog 81:=en Tryz.func81 (by kernel_rfl)
noncomputable def tD (a_p0:zD) (k_p1:Int) (i_p2:zH):Option (zD × Int):=
 bnd (elt a_p0.devices k_p1) fun x1=>bnd (gE x1) fun r1=>bif (r1.2 != 0) then (some (a_p0,r1.2)) else (bnd (elt a_p0.devices k_p1) fun x2=>bnd (tH a_p0.devices k_p1 r1.1) fun l1=>bnd (gJ r1.1 i_p2 (i_p2.Data.length:Int)) fun r2=>bif (r2.2 != 0) then (some ((⟨a_p0.store,l1,a_p0.needs,a_p0.phase,a_p0.load,a_p0.before,a_p0.order⟩:zD),r2.2)) else (bnd (sD i_p2) fun r3=>bnd (jO r2.1 r3) fun r4=>bif (r4.2 != 0) then (some ((⟨a_p0.store,l1,a_p0.needs,a_p0.phase,a_p0.load,a_p0.before,a_p0.order⟩:zD),r4.2)) else (bnd (elt l1 k_p1) fun x3=>bnd (tH l1 k_p1 r4.1) fun l2=>some ((⟨a_p0.store,l2,a_p0.needs,a_p0.phase,a_p0.load,a_p0.before,a_p0.order⟩:zD),0))))
theorem zAx {a_p0 k_p1 i_p2 A1 c1 A2 c2 A3 c3 A4 c4 A5 c5 A6 c6 gb1 gb2 r} (h:tD a_p0 k_p1 i_p2=some r):
    Fun Tryz.prog 81 [.pointer (some ⟨gb1,0,none⟩), .int .i64 k_p1, .agg (xJ i_p2 A6 c6).toArray] [.ro (SlL zR A2 c2 a_p0.needs), .ro (SlL yU A3 c3 a_p0.load.Have), .ro (SlL eu8 A4 c4 a_p0.load.Data), .ro (SlL yH A5 c5 a_p0.order), .ro (SlL eu8 A6 c6 i_p2.Data), .res (Box gb1 144 (zI a_p0 gb2 A1 c1 A2 c2 A3 c3 A4 c4 A5 c5)), .res (xK (yL zE) 64 A1 c1 a_p0.devices)] (fun v F=>∃ A7 c7 A8 c8 A9 c9 A10 c10 A11 c11,v= .int .i64 r.2∧F= [.ro (SlL zR A8 c8 r.1.needs), .ro (SlL yU A9 c9 r.1.load.Have), .ro (SlL eu8 A10 c10 r.1.load.Data), .ro (SlL yH A11 c11 r.1.order), .res (Box gb1 144 (zI r.1 gb2 A7 c7 A8 c8 A9 c9 A10 c10 A11 c11)), .res (xK (yL zE) 64 A7 c7 r.1.devices)]):=by
 refine Fun.intro Tryz.func81 rfl rfl rfl fun w R=>?_;refine .seq<|.region<|.box rfl rfl fun g1=>.b [0,1,5] rfl<|.a 3 rfl<|.lb 1 6 rfl<|.p rfl rfl<|.bd h fun x1 hx1 h=>.ixC hx1 rfl rfl rfl (zm 7 rfl) rfl rfl rfl rfl rfl fun g2 hA=>?_;subst hA;refine .ldC (ls:=zE) 0 (fun ex=>.agg (zN x1 ex.1.1 ex.1.2 ex.2.1.1 ex.2.1.2).toArray) hx1 rfl rfl (zm 7 rfl) rfl (fun _=>rfl) fun ex1=>?_;obtain ⟨⟨A7,c7⟩,⟨⟨A8,c8⟩,_⟩⟩:=ex1;refine .nm 10 rfl<|.bd h fun r1 hr1 h=>.ct 12 [0,1] [] 0 (zJD hr1) zVX rfl fun A9 c9 A10 c10=>.n 3 rfl<|.alloc rfl rfl fun g3=>.sb 0 0 rfl<|.bf [0,1,5,7,8] [0,0,0] 2 rfl rfl<|.seq<|.ab [0,1,5,7,8,21] rfl<|.cb h rfl (fun h=>?_) (fun h=>?_)
 ·refine .abf [6] [4,4,4,4] 5 rfl rfl ?_;cases h;exact .rv rfl rfl ⟨(some ⟨g2,0,none⟩),c1,A2,c2,A3,c3,A4,c4,A5,c5,rfl,rfl⟩ (zk 6 4 [2,3,4,5] [4,4] 0 rfl)
 refine .sk<|.pr [0,1,5,7] rfl<|.seq<|.regionX (iN [0,4,8,13,16,21,25,31] .nil) _ mixed (by kernel_rfl) (zl [0,0,0,0,0,0,0,0,0] 2 rfl)<|.yn 3 rfl<|.yx 1 9 rfl<|.yn 1 rfl<|.yx 0 0 rfl<|.bd h fun x2 hx2 h=>.xfx (Rd.ixOC (n':=16) hx2 rfl rfl rfl rfl rfl rfl rfl) rfl<|.xef<|.bd h fun l1 hl1 h=>.stC (ls:=zE) 0 (fun ex=>((A9,c9),((A10,c10),()))) hx2 hl1 rfl rfl (.s (.s (.s (.s (.s (.s (.s (.s (.s (.s .z)))))))))) rfl rfl rfl rfl (fun _=>rfl) (fun _=>⟨(zm 3 rfl),(zm 4 rfl),trivial⟩) ?_;refine .ss 26 (wZ hl1)<|.asrt (F':=.res (xK (yL zE) 64 (some ⟨g2,0,none⟩) c1 l1):: .res (Box g3 64 (zN r1.1 A9 c9 A10 c10)):: .ro (SlL eu8 A9 c9 r1.1.Slots.e0.Image.Data):: .ro (SlL eu8 A10 c10 r1.1.Slots.e1.Image.Data):: .res (Box g1 58 (xJ i_p2 A6 c6)):: .ro (SlL zR A2 c2 a_p0.needs):: .ro (SlL yU A3 c3 a_p0.load.Have):: .ro (SlL eu8 A4 c4 a_p0.load.Data):: .ro (SlL yH A5 c5 a_p0.order):: .ro (SlL eu8 A6 c6 i_p2.Data):: .res (Box gb1 144 [.pointer (zBZ a_p0.store gb2), .slice (some ⟨g2,0,none⟩) l1.length c1, .slice A2 a_p0.needs.length c2, .int .i64 a_p0.phase, .int .i64 a_p0.load.Size, .int .i64 a_p0.load.Part, .slice A3 a_p0.load.Have.length c3, .slice A4 a_p0.load.Data.length c4, .int .u8 a_p0.before, .slice A5 a_p0.order.length c5])::R) (fun _ w=>by rw [oL hl1]; exact w)<|.xk (zl [1,1,1,1,1,1,1,1,1] 2 rfl)<|.xdone<|.thenN<|.pr [0,1,5,7] rfl<|.seq<|.seq<|.region<|.lb 0 1 rfl<|.lb 0 4 rfl<|.p rfl rfl<|.lb 4 4 rfl<|.p rfl rfl<|.bd h fun r2 hr2 h=>.ct 13 [2,3,9] [] 0 (zIQ hr2) zVF rfl fun A11 c11 A12 c12=>.n 3 rfl<|.sb 0 3 rfl<|.bf [0,1,5,7,8] [0,0,0,0] 2 rfl rfl<|.ab [0,1,5,7,8,40] rfl<|.cb h rfl (fun h=>?_) (fun h=>?_)
 ·refine .abf [6] [3,4,4,4,4] 5 rfl rfl ?_;cases h;exact .rv rfl rfl ⟨(some ⟨g2,0,none⟩),c1,A2,c2,A3,c3,A4,c4,A5,c5,rfl,rfl⟩ (zk 6 4 [2,3,4,5] [5] 0 rfl)
 refine .sk<|.pr [0,1,5,7] rfl<|.seq<|.seq<|.regionX (iN [1,5,10,15,16,20,24,31,32] .nil) _ mixed (by kernel_rfl) (zl [] 1 rfl)<|.yx 0 0 rfl<|.yx 0 4 rfl<|.bd h fun r3 hr3 h=>.xqc (fun _ h=>h) (kL hr3) zLO rfl rfl rfl rfl (za [8] rfl)<|.xef<|.bd h fun r4 hr4 h=>.ct 13 [1,2] [] 0 (zGV hr4) zVR rfl fun A13 c13 A14 c14=>.xk (zl [] 3 rfl)<|.yn 3 rfl<|.xef<|.sb 0 2 rfl<|.xk (zl [] 3 rfl)<|.yn 1 rfl<|.xdone<|.thenN<|.pf [0,1,7,8] [0,0,0,2,3,3,3,3] 4 rfl rfl<|.ab [0,1,7,8,50] rfl<|.cb h rfl (fun h=>?_) (fun h=>?_)
 ·refine .abf [6] [] 3 rfl rfl ?_;cases h;exact .rv rfl rfl ⟨(some ⟨g2,0,none⟩),c1,A2,c2,A3,c3,A4,c4,A5,c5,rfl,rfl⟩ (zk 6 4 [2,3,4,5] [5] 0 rfl)
 refine .sk<|.pr [0,1,7] rfl<|.seq<|.regionX (iN [0,4,8,13,16,21,25,31] .nil) _ mixed (by kernel_rfl) (zl [0,0,0,1,1,1,1] 2 rfl)<|.yn 3 rfl<|.yx 1 8 rfl<|.yn 1 rfl<|.yx 0 0 rfl<|.bd h fun x3 hx3 h=>.xfx (Rd.ixOC (n':=16) hx3 rfl rfl rfl rfl rfl rfl rfl) rfl<|.xef<|.bd h fun l2 hl2 h=>.stC (ls:=zE) 0 (fun ex=>((A13,c13),((A14,c14),()))) hx3 hl2 rfl rfl (.s (.s (.s .z))) rfl rfl rfl rfl (fun _=>rfl) (fun _=>⟨(zm 3 rfl),(zm 4 rfl),trivial⟩) ?_;refine .ss 55 (wZ hl2)<|.asrt (F':=.res (xK (yL zE) 64 (some ⟨g2,0,none⟩) c1 l2):: .res (Box g3 64 (zN r4.1 A13 c13 A14 c14)):: .ro (SlL eu8 A13 c13 r4.1.Slots.e0.Image.Data):: .ro (SlL eu8 A14 c14 r4.1.Slots.e1.Image.Data):: .ro (SlL zR A2 c2 a_p0.needs):: .ro (SlL yU A3 c3 a_p0.load.Have):: .ro (SlL eu8 A4 c4 a_p0.load.Data):: .ro (SlL yH A5 c5 a_p0.order):: .res (Box gb1 144 [.pointer (zBZ a_p0.store gb2), .slice (some ⟨g2,0,none⟩) l2.length c1, .slice A2 a_p0.needs.length c2, .int .i64 a_p0.phase, .int .i64 a_p0.load.Size, .int .i64 a_p0.load.Part, .slice A3 a_p0.load.Have.length c3, .slice A4 a_p0.load.Data.length c4, .int .u8 a_p0.before, .slice A5 a_p0.order.length c5])::R) (fun _ w=>by rw [oL hl2]; exact w)<|.xk (zl [1,1,1,1,1,1,1] 2 rfl)<|.xdone<|.thenN<|.pf [] [0] 3 rfl rfl<|.ae rfl ?_;cases h;exact .rv rfl rfl ⟨(some ⟨g2,0,none⟩),c1,A2,c2,A3,c3,A4,c4,A5,c5,rfl,rfl⟩ (zk 6 4 [2,3,4,5] [5] 0 rfl)
theorem zQm:Ent Tryz.prog 82:=en Tryz.func82 (by kernel_rfl)
noncomputable def wV (a_p0:zD) (phase:Int):Option (List Int):=
 bnd (yG (τ:=List Int) (fun (s1:List Int × Int)=>bif decide (s1.2<(a_p0.order.length:Int)) then (bnd (elt a_p0.order s1.2) fun x1=>bnd (app 1 s1.1 [IntKind.wrap .u8 x1]) fun l1=>some (.next (l1,IntKind.wrap .i64 (s1.2+1)))) else (some (.done s1.1))) ([IntKind.wrap .u8 phase,a_p0.before],0)) fun o1=>some o1
theorem pH {a_p0 phase A1 c1 A2 c2 A3 c3 A4 c4 A5 c5 gb1 gb2 r} (h:wV a_p0 phase=some r):
    Fun Tryz.prog 82 [.pointer (some ⟨gb1,0,none⟩), .int .i64 phase] [.ro (SlL zR A2 c2 a_p0.needs), .ro (SlL yU A3 c3 a_p0.load.Have), .ro (SlL eu8 A4 c4 a_p0.load.Data), .ro (SlL yH A5 c5 a_p0.order), .res (Box gb1 144 (zI a_p0 gb2 A1 c1 A2 c2 A3 c3 A4 c4 A5 c5)), .res (xK (yL zE) 64 A1 c1 a_p0.devices)] (fun v F=>∃ A6 c6,v= .slice A6 r.length c6∧F= [.res (Box gb1 144 (zI a_p0 gb2 A1 c1 A2 c2 A3 c3 A4 c4 A5 c5)), .res (xK (yL zE) 64 A1 c1 a_p0.devices), .res (zM eu8 5 A6 c6 r)]):=by
 refine Fun.intro Tryz.func82 rfl rfl rfl fun w R=>?_;refine .ab [0,1] rfl<|.a 5 rfl<|.lb 8 4 rfl<|.bS rfl fun g1=>.b [0,5] rfl<|.seq<|.a 3 rfl<|.lb 9 5 rfl<|.b [5,18,19,20] rfl<|.asrt (fun _ w=>w.litL (E:=eu8) (e:=5) [IntKind.wrap .u8 phase,a_p0.before] rfl rfl)<|.bd h fun o1 hl1 h=>.cutK 1 (fun (e2:Option Addr × Nat)=>[.s 5 (.slice e2.1 o1.length e2.2)]) (fun e2=>[.res (zM eu8 5 e2.1 e2.2 o1)]) rfl rfl ?_ ?_
 ·refine .block<|.loopQ hl1 1 (fun (s1:List Int × Int) (e1:Option Addr × Nat)=>[.s 5 (.slice e1.1 s1.1.length e1.2),18,19, .s 20 (.int .i64 s1.2)]) (fun s1 e1=>[.res (zM eu8 5 e1.1 e1.2 s1.1)]) rfl rfl ((some ⟨g1,0,none⟩),([IntKind.wrap .u8 phase,a_p0.before]:List Int).length) (zb rfl) (fun _ w=>w) ?_;rintro s1 ⟨A6,c6⟩ st1 hm1 hd1 h1;refine .ae rfl<|.seq<|.cb h1 rfl (fun h1=>?_) (fun h1=>?_)
  ·refine .sk<|.pr [5,18,19,20] rfl<|.seq<|.block<|.seq<|.region<|.bd h1 fun x1 hx1 h1=>.ix1 hx1 4 rfl fun b1 ob1=>.ld ob1 0 0 rfl<|.bf [5,7,18,19,20] [] 1 rfl rfl<|.region<|.n 3 rfl<|.bS rfl fun g2=>.bd h1 fun l1 hl1 h1=>.app (E:=eu8) hl1 rfl rfl rfl (.s .z) rfl rfl rfl rfl rfl rfl rfl rfl (eO (.head _) rfl rfl) rfl rfl fun A8 c8=>.p rfl rfl<|.done<|.blkN<|.thenN<|.pf [5,18,19,20] [0] 1 rfl rfl<|.region ?_;cases h1;exact .be rfl<|.ag (A8,c8) hm1 rfl zw
  refine .xq rfl ?_;cases h1;cases hd1 _ rfl
  exact .thenN<|.hE (A6,c6) rfl zw
 rintro ⟨A7,c7⟩;refine .ab [4] rfl ?_;cases h;exact .rv rfl rfl ⟨A7,c7,rfl,rfl⟩ (zl [5,5,0] 4 rfl)
theorem zUU:Ent Tryz.prog 45:=en Tryz.func45 (by kernel_rfl)
noncomputable def tB (s_p0:zC) (key:Int) (value:(List Int)) (s_p0_d:zA):Option (zC × zA × Int):=
 bnd (zS s_p0 ([(⟨key,value,false⟩:zF)]) s_p0_d) fun r1=>some (r1.1,r1.2.1,r1.2.2)
theorem iH {s_p0 key value s_p0_d A1 c1 A2 c2 A3 c3 M1 gb1 gb2 r} (h:tB s_p0 key value s_p0_d=some r):
    Fun Tryz.prog 45 [.pointer (some ⟨gb1,0,none⟩), .int .u8 key, .slice A1 value.length c1] [.ro (SlL eu8 A1 c1 value), .res (Box gb1 135 (zO s_p0 gb2 M1)), .res (yO (yF .u8) (cod eu8) M1 s_p0.all), .res (Box gb2 131 (zG s_p0_d A2 c2 A3 c3)), .res (zM eu8 5 A2 c2 s_p0_d.bytes), .res (zM yH 3 A3 c3 s_p0_d.wear)] (fun v F=>∃ M2 A4 c4 A5 c5,v= .int .i64 r.2.2∧F= [.res (Box gb1 135 (zO r.1 gb2 M2)), .res (yO (yF .u8) (cod eu8) M2 r.1.all), .res (Box gb2 131 (zG r.2.1 A4 c4 A5 c5)), .res (zM eu8 5 A4 c4 r.2.1.bytes), .res (zM yH 3 A5 c5 r.2.1.wear)]):=by
 refine Fun.intro Tryz.func45 rfl rfl rfl fun w R=>?_;refine .ab [0,1,2] rfl<|.a 4 rfl<|.bS rfl fun g1=>.asrt (fun _ w=>Sat.litC (ls:=xQ) (e:=107) [((⟨key,value,false⟩:zF),((A1,c1),()))] rfl rfl rfl ⟨(.head _),trivial⟩ w)<|.asrt (fun _ w=>w.meltC)<|.bd h fun r1 hr1 h=>.call (lG (gb1:=gb1) (gb2:=gb2) hr1) zTk rfl rfl rfl (zd [5] [2,2,2,2,2] 0 rfl) ?_;rintro _ _ ⟨M2,A4,c4,A5,c5,rfl,rfl⟩;refine .nm 7 rfl<|.bf [6] [0,0,0,0,0] 2 rfl rfl ?_;cases h;exact .rv rfl rfl ⟨M2,A4,c4,A5,c5,rfl,rfl⟩ zw
theorem zUZ:Ent Tryz.prog 21:=en Tryz.func21 (by kernel_rfl)
noncomputable def yZ (a_p0:zD) (a_p0_store:zC) (a_p0_store_d:zA):Option (zD × zC × zA × Int):=
 bnd ((bif (a_p0.phase != 1) then (some true) else (bnd (wP a_p0.load) fun r1=>some (!r1)):Option Bool)) fun o1=>bif o1 then (some (a_p0,a_p0_store,a_p0_store_d,46)) else (bnd (sL a_p0.load) fun r2=>bif (r2.2 != 0) then (some (a_p0,a_p0_store,a_p0_store_d,r2.2)) else (bnd (mM r2.1) fun r3=>bif (r3.2 != 0) then (some (a_p0,a_p0_store,a_p0_store_d,r3.2)) else (bnd (tW a_p0 r3.1) fun r4=>bif (r4.2 != 0) then (some (a_p0,a_p0_store,a_p0_store_d,r4.2)) else (bnd (uW r4.1) fun r5=>bif (r5.2 != 0) then (some (a_p0,a_p0_store,a_p0_store_d,r5.2)) else (bif ((r5.1.length:Int)==0) then (some ((⟨a_p0.store,a_p0.devices,a_p0.needs,0,(⟨0,0, [], []⟩:xF),a_p0.before,a_p0.order⟩:zD),a_p0_store,a_p0_store_d,0)) else (bnd (pI r4.1) fun r6=>bnd (yG (τ:=(zD × zC × zA × Int) ⊕ zD) (fun (s1:zD × Int)=>bif decide (s1.2<(r6.length:Int)) then (bnd (elt r6 s1.2) fun x1=>bnd (elt s1.1.devices x1) fun x2=>bnd (nZ r3.1 x2.Name) fun r7=>bnd (elt r3.1.Images r7) fun x3=>bnd (tD s1.1 x1 x3) fun r8=>bif (r8.2 != 0) then (some (.done (.inl (r8.1,a_p0_store,a_p0_store_d,r8.2)))) else (some (.next (r8.1,IntKind.wrap .i64 (s1.2+1))))) else (some (.done (.inr s1.1)))) (a_p0,0)) fun o2=>wT o2 fun o3=>bnd (yG (τ:=Int) (fun (s2:Int × Int)=>bif decide (s2.1<(o3.devices.length:Int)) then (bnd (elt o3.devices s2.1) fun x4=>bnd (zCH .u8 (IntKind.wrap .u8 x4.Active) s2.1) fun q1=>some (.next (IntKind.wrap .i64 (s2.1+1),iOr .u8 s2.2 q1))) else (some (.done s2.2))) (0,0)) fun o4=>bnd (wV (⟨o3.store,o3.devices,o3.needs,o3.phase,o3.load,o4,r5.1⟩:zD) 2) fun r9=>bnd (fQ o3.store) fun bb1=>bnd (tB a_p0_store 32 r9 a_p0_store_d) fun r10=>bif (r10.2.2 != 0) then (some ((⟨o3.store,o3.devices,o3.needs,o3.phase,o3.load,o4,r5.1⟩:zD),r10.1,r10.2.1,r10.2.2)) else (some ((⟨o3.store,o3.devices,o3.needs,2,(⟨0,0, [], []⟩:xF),o4,r5.1⟩:zD),r10.1,r10.2.1,0))))))))
theorem kT {a_p0 a_p0_store a_p0_store_d A1 c1 A2 c2 A3 c3 A4 c4 A5 c5 A6 c6 A7 c7 M1 gb1 gb2 gb3 r} (h:yZ a_p0 a_p0_store a_p0_store_d=some r):
    Fun Tryz.prog 21 [.pointer (some ⟨gb1,0,none⟩)] [.ro (SlL zR A2 c2 a_p0.needs), .ro (SlL yU A3 c3 a_p0.load.Have), .ro (SlL eu8 A4 c4 a_p0.load.Data), .ro (SlL yH A5 c5 a_p0.order), .res (Box gb1 144 (zI a_p0 gb2 A1 c1 A2 c2 A3 c3 A4 c4 A5 c5)), .res (xK (yL zE) 64 A1 c1 a_p0.devices), .res (Box gb2 135 (zO a_p0_store gb3 M1)), .res (yO (yF .u8) (cod eu8) M1 a_p0_store.all), .res (Box gb3 131 (zG a_p0_store_d A6 c6 A7 c7)), .res (zM eu8 5 A6 c6 a_p0_store_d.bytes), .res (zM yH 3 A7 c7 a_p0_store_d.wear)] (fun v F=>∃ A8 c8 A9 c9 A10 c10 A11 c11 A12 c12 M2 A13 c13 A14 c14,v= .int .i64 r.2.2.2∧F= [.ro (SlL zR A9 c9 r.1.needs), .ro (SlL yU A10 c10 r.1.load.Have), .ro (SlL eu8 A11 c11 r.1.load.Data), .ro (SlL yH A12 c12 r.1.order), .res (Box gb1 144 (zI r.1 gb2 A8 c8 A9 c9 A10 c10 A11 c11 A12 c12)), .res (xK (yL zE) 64 A8 c8 r.1.devices), .res (Box gb2 135 (zO r.2.1 gb3 M2)), .res (yO (yF .u8) (cod eu8) M2 r.2.1.all), .res (Box gb3 131 (zG r.2.2.1 A13 c13 A14 c14)), .res (zM eu8 5 A13 c13 r.2.2.1.bytes), .res (zM yH 3 A14 c14 r.2.2.1.wear)]):=by
 refine Fun.intro Tryz.func21 rfl rfl rfl fun w R=>?_;refine .ab [0] rfl<|.seq<|.seq<|.bd h fun o1 hj1 h=>.cu 0 [0, .s 24 (.bool o1)] [] rfl rfl ?_ ?_
 ·refine .region<|.n 3 rfl<|.lb 3 4 rfl<|.n 2 rfl<|.gs 17 hj1 rfl (fun hj1=>?_) (fun hj1=>?_)
  ·cases hj1;exact .be rfl<|.hU rfl zw
  refine .n 3 rfl<|.gOn rfl rfl<|.lb 4 4 rfl<|.gOn rfl rfl<|.bd hj1 fun r1 hr1 hj1=>.cv [1,2] (iZ hr1) zUN rfl ?_;cases hj1;exact .be rfl<|.hU rfl zw
 refine .cb h rfl (fun h=>?_) (fun h=>?_)
 ·refine .ab [2] rfl ?_;cases h;exact .rv rfl rfl ⟨A1,c1,A2,c2,A3,c3,A4,c4,A5,c5,M1,A6,c6,A7,c7,rfl,rfl⟩ (zk 11 4 [7,8,9,10] [4,4,4,4,4,4,4] 0 rfl)
 refine .sk<|.pr [0] rfl<|.a 3 rfl<|.lb 4 4 rfl<|.bd h fun r2 hr2 h=>.cr 12 [1,2] [] 0 (zDA hr2) zXC rfl fun A8 c8=>.b [0,3,4] rfl<|.seq<|.ab [0,3,4,34] rfl<|.cb h rfl (fun h=>?_) (fun h=>?_)
 ·refine .abf [2] [] 1 rfl rfl ?_;cases h;exact .rv rfl rfl ⟨A1,c1,A2,c2,A3,c3,A4,c4,A5,c5,M1,A6,c6,A7,c7,rfl,rfl⟩ (zk 11 4 [7,8,9,10] [4,4,4,4,4,4,4] 0 rfl)
 refine .sk<|.pr [0,3] rfl<|.a 1 rfl<|.asrt (fun _ w=>w.meltL)<|.bd h fun r3 hr3 h=>.ct 14 [0] [] 0 (zEm hr3) zXk rfl fun A9 c9 A10 c10=>.n 3 rfl<|.alloc rfl rfl fun g1=>.sb 0 0 rfl<|.bf [0,4,5] [0,0,0] 1 rfl rfl<|.seq<|.ab [0,4,5,42] rfl<|.cb h rfl (fun h=>?_) (fun h=>?_)
 ·refine .abf [2] [] 3 rfl rfl ?_;cases h;exact .rv rfl rfl ⟨A1,c1,A2,c2,A3,c3,A4,c4,A5,c5,M1,A6,c6,A7,c7,rfl,rfl⟩ (zk 11 4 [7,8,9,10] [4,4,4,4,4,4,4] 0 rfl)
 refine .sk<|.pr [0,5] rfl<|.a 1 rfl<|.lb 0 0 rfl<|.bd h fun r4 hr4 h=>.call (zAV (gb1:=gb1) hr4) zXJ rfl rfl rfl (zd [5,6,7,8,3,4] [7,7] 0 rfl) ?_;rintro _ _ ⟨A11,c11,A12,c12,A13,c13,rfl,rfl⟩;refine .nm 17 rfl<|.n 3 rfl<|.alloc rfl rfl fun g2=>.sb 0 0 rfl<|.b [0,4,5,6] rfl<|.seq<|.ab [0,4,5,6,51] rfl<|.cb h rfl (fun h=>?_) (fun h=>?_)
 ·refine .abf [2] [4,4] 7 rfl rfl ?_;cases h;exact .rv rfl rfl ⟨A1,c1,A2,c2,A3,c3,A4,c4,A5,c5,M1,A6,c6,A7,c7,rfl,rfl⟩ (zk 11 4 [7,8,9,10] [0,0,4,4,4,4,4] 0 rfl)
 refine .sk<|.pr [0,5,6] rfl<|.seq<|.region<|.lb 0 0 rfl<|.bd h fun r5 hr5 h=>.cr 19 [1,2,3] [] 0 (zBr hr5) zXG rfl fun A14 c14=>.b [0,4,5,6,7] rfl<|.seq<|.ab [0,4,5,6,7,59] rfl<|.cb h rfl (fun h=>?_) (fun h=>?_)
 ·refine .abf [2] [5,5] 8 rfl rfl ?_;cases h;exact .rv rfl rfl ⟨A1,c1,A2,c2,A3,c3,A4,c4,A5,c5,M1,A6,c6,A7,c7,rfl,rfl⟩ (zk 11 4 [7,8,9,10] [0,0,4,4,4,4,4] 0 rfl)
 refine .sk<|.pr [0,5,6,7] rfl<|.seq<|.ab [0,5,6,7,63] rfl<|.cb h rfl (fun h=>?_) (fun h=>?_)
 ·refine .a 5 rfl<|.sb 4 5 rfl<|.n 2 rfl<|.sb 3 0 rfl<|.bf [] [0,5,8] 10 rfl rfl<|.ae rfl<|.asrt (fun _ w=>w.nilSl (cod yU))<|.asrt (fun _ w=>w.nilSl (cod eu8)) ?_;cases h;exact .rv rfl rfl ⟨A1,c1,A2,c2,none,0,none,0,A5,c5,M1,A6,c6,A7,c7,rfl,rfl⟩ (zk 11 4 [9,8,7,10] [2,2,4,4,4,4,4] 0 rfl)
 refine .sk<|.pr [0,5,6,7] rfl<|.seq<|.seq<|.region<|.lb 0 1 rfl<|.bd h fun r6 hr6 h=>.cr 20 [2,3,4] [] 0 (zBo hr6) zXQ rfl fun A15 c15=>.bf [0,5,7,72,73,74] [0,0] 4 rfl rfl<|.bd h fun o2 hl1 h=>.cutJ 11 (fun (o3:zD) (e3:Option Addr × Nat × Option Addr × Nat × Option Addr × Nat × Option Addr × Nat × Option Addr × Nat)=>[0,7]) (fun o3 e3=>[.ro (SlL yH e3.2.2.2.2.2.2.2.2.1 e3.2.2.2.2.2.2.2.2.2 o3.order), .ro (SlL eu8 e3.2.2.2.2.2.2.1 e3.2.2.2.2.2.2.2.1 o3.load.Data), .ro (SlL yU e3.2.2.2.2.1 e3.2.2.2.2.2.1 o3.load.Have), .ro (SlL zR e3.2.2.1 e3.2.2.2.1 o3.needs), .res (xK (yL zE) 64 e3.1 e3.2.1 o3.devices),1, .res (Box gb1 144 (zI o3 gb2 e3.1 e3.2.1 e3.2.2.1 e3.2.2.2.1 e3.2.2.2.2.1 e3.2.2.2.2.2.1 e3.2.2.2.2.2.2.1 e3.2.2.2.2.2.2.2.1 e3.2.2.2.2.2.2.2.2.1 e3.2.2.2.2.2.2.2.2.2))]) rfl rfl (fun o3=>o2= .inr o3) ?_ ?_
 ·refine .block<|.loopQ hl1 11 (fun (s1:zD × Int) (e2:Option Addr × Nat × Option Addr × Nat × Option Addr × Nat × Option Addr × Nat × Option Addr × Nat)=>[0,5,7,72,73, .s 74 (.int .i64 s1.2)]) (fun s1 e2=>[.ro (SlL yH e2.2.2.2.2.2.2.2.2.1 e2.2.2.2.2.2.2.2.2.2 s1.1.order), .ro (SlL eu8 e2.2.2.2.2.2.2.1 e2.2.2.2.2.2.2.2.1 s1.1.load.Data), .ro (SlL yU e2.2.2.2.2.1 e2.2.2.2.2.2.1 s1.1.load.Have), .ro (SlL zR e2.2.2.1 e2.2.2.2.1 s1.1.needs), .res (xK (yL zE) 64 e2.1 e2.2.1 s1.1.devices),0,1, .res (Box gb1 144 (zI s1.1 gb2 e2.1 e2.2.1 e2.2.2.1 e2.2.2.2.1 e2.2.2.2.2.1 e2.2.2.2.2.2.1 e2.2.2.2.2.2.2.1 e2.2.2.2.2.2.2.2.1 e2.2.2.2.2.2.2.2.2.1 e2.2.2.2.2.2.2.2.2.2)),4,5,6]) rfl rfl (A1,c1,A2,c2,A3,c3,A4,c4,A5,c5) (zb rfl) (zl [10,9,8,7,3] 0 rfl) ?_;rintro s1 ⟨A16,c16,A17,c17,A18,c18,A19,c19,A20,c20⟩ st1 hm1 hd1 h1;refine .ae rfl<|.seq<|.cb h1 rfl (fun h1=>?_) (fun h1=>?_)
  ·refine .sk<|.pr [0,5,7,72,73,74] rfl<|.seq<|.block<|.seq<|.region<|.bd h1 fun x1 hx1 h1=>.ix2 hx1 5 rfl fun g3 hA=>?_;subst hA;refine .ldO 0 hx1 rfl rfl (zm 5 rfl) rfl rfl<|.b [0,5,7,9,72,73,74] rfl<|.seq<|.regionX (iN [0,4,8,12,16,20,24,28,33,36,41,44,51,54,57,61,67,68] .nil) _ mixed (by kernel_rfl) (zl [0,0,0,0,1,1] 2 rfl)<|.yn 3 rfl<|.yl 0 6 rfl<|.yl 0 6 rfl<|.yn 3 rfl<|.yx 1 7 rfl<|.yn 1 rfl<|.bd h1 fun x2 hx2 h1=>.openOC (zm 4 rfl) hx2 fun g4 hA=>?_;subst hA;refine .xfx (Rd.ixOC (n':=16) hx2 rfl rfl rfl rfl rfl rfl rfl) rfl<|.yn 1 rfl<|.xef<|.ldC (ls:=zE) 0 (fun ex=>.string x2.Name) hx2 rfl rfl (zm 4 rfl) rfl (fun _=>rfl) fun ex1=>?_;obtain ⟨⟨A26,c26⟩,⟨⟨A27,c27⟩,_⟩⟩:=ex1;refine .nm 18 rfl<|.xk (zl [2,2,2,2,3,3] 4 rfl)<|.bd h1 fun r7 hr7 h1=>.xqc (fun _ h=>h) (zHf hr7) zXB rfl rfl rfl rfl (za [7,8] rfl)<|.bd h1 fun x3 hx3 h1=>.openN (zm 11 rfl) hx3 fun b1 ob1 ex2 hqb1=>?_;obtain ⟨⟨A28,c28⟩,_⟩:=ex2;refine .nm 20 rfl<|.xfx (Rd.ixN hqb1 hx3 rfl rfl rfl rfl rfl rfl rfl) rfl<|.xfx (Rd.load ob1 0 rfl (.head _) rfl rfl) rfl<|.xef<|.bd h1 fun r8 hr8 h1=>.call (zAx (gb1:=gb1) hr8) zXA rfl rfl rfl (zd [9,8,7,6,3] [11,8] 0 rfl) ?_;rintro _ _ ⟨A29,c29,A30,c30,A31,c31,A32,c32,A33,c33,rfl,rfl⟩;refine .nm 24 rfl<|.xk (zl [] 10 rfl)<|.yn 1 rfl<|.xdone<|.thenN<|.pf [0,4,5,7,72,73,74] [0,0,0,0,0,0] 8 rfl rfl<|.ab [0,4,5,7,72,73,74,96] rfl<|.cb h1 rfl (fun h1=>?_) (fun h1=>?_)
   ·refine .abf [2] [0,0,0,0,0,0] 5 rfl rfl ?_;cases h1;cases hd1 _ rfl
    have h:some _=some _:=h;cases h;exact .rv rfl rfl ⟨A29,c29,A30,c30,A31,c31,A32,c32,A33,c33,M1,A6,c6,A7,c7,rfl,rfl⟩ (zk 11 4 [7,8,9,10] [4,4,4,4,4,4,4] 0 rfl)
   refine .skip<|.blkN<|.thenN<|.pr [0,5,7,72,73,74] rfl<|.region ?_;cases h1;exact .be rfl<|.ag (A29,c29,A30,c30,A31,c31,A32,c32,A33,c33) hm1 rfl (zl [3,2,1,0,1,1,1] 0 rfl)
  refine .xq rfl ?_;cases h1;cases hd1 _ rfl
  exact .thenN<|.hereI s1.1 (A16,c16,A17,c17,A18,c18,A19,c19,A20,c20) rfl (zb rfl) (zl [0,0,0,0,0,1,1] 4 rfl)
 rintro o3 ⟨A21,c21,A22,c22,A23,c23,A24,c24,A25,c25⟩ ho;subst ho;have h:=unR h;refine .a 5 rfl<|.sb 8 6 rfl<|.n 2 rfl<|.sb 9 0 rfl<|.bf [0] [0] 1 rfl rfl<|.seq<|.a 3 rfl<|.lb 1 0 rfl<|.b [0,109,110,111] rfl<|.bd h fun o4 hl2 h=>.cu 1 [0] [.res (Box gb1 144 [.pointer (zBZ o3.store gb2), .slice A21 o3.devices.length c21, .slice A22 o3.needs.length c22, .int .i64 o3.phase, .int .i64 o3.load.Size, .int .i64 o3.load.Part, .slice A23 o3.load.Have.length c23, .slice A24 o3.load.Data.length c24, .int .u8 o4, .slice A14 r5.1.length c14])] rfl rfl ?_ ?_
 ·refine .block<|.loopQ hl2 1 (fun (s2:Int × Int) (e4:Unit)=>[0,109,110, .s 111 (.int .i64 s2.1)]) (fun s2 e4=>[.res (Box gb1 144 [.pointer (zBZ o3.store gb2), .slice A21 o3.devices.length c21, .slice A22 o3.needs.length c22, .int .i64 o3.phase, .int .i64 o3.load.Size, .int .i64 o3.load.Part, .slice A23 o3.load.Have.length c23, .slice A24 o3.load.Data.length c24, .int .u8 s2.2, .slice A14 r5.1.length c14])]) rfl rfl () (zb rfl) (fun _ w=>w) ?_;rintro s2 e4 st2 hm2 hd2 h2;refine .ae rfl<|.seq<|.cb h2 rfl (fun h2=>?_) (fun h2=>?_)
  ·refine .sk<|.pr [0,109,110,111] rfl<|.seq<|.block<|.a 1 rfl<|.bd h2 fun x4 hx4 h2=>.ixC hx4 rfl rfl rfl (zm 4 rfl) rfl rfl rfl rfl rfl fun g5 hA=>?_;subst hA;refine .ldC (ls:=zE) 0 (fun ex=>.agg (zN x4 ex.1.1 ex.1.2 ex.2.1.1 ex.2.1.2).toArray) hx4 rfl rfl (zm 4 rfl) rfl (fun _=>rfl) fun ex3=>?_;obtain ⟨⟨A34,c34⟩,⟨⟨A35,c35⟩,_⟩⟩:=ex3;refine .nm 13 rfl<|.alloc rfl rfl fun g6=>.p rfl rfl<|.sb 0 0 rfl<|.b [0,10,11,109,110,111] rfl<|.regionX (iN [0,4,8,13,16,21,24,28,33,36,40,44,51] .nil) _ mixed (by kernel_rfl) (zl [0,0,0] 1 rfl)<|.yn 3 rfl<|.yx 8 3 rfl<|.yn 1 rfl<|.yx 13 0 rfl<|.yn 2 rfl<|.bd h2 fun q1 hq1 h2=>.xfx (Rd.shl hq1 rfl rfl) rfl<|.yn 3 rfl<|.xef<|.sb 8 3 rfl<|.xk (zl [] 1 rfl)<|.xdone<|.blkN<|.thenN<|.pf [0,109,110,111] [0] 3 rfl rfl<|.region ?_;cases h2;exact .be rfl<|.ag () hm2 rfl zw
  refine .xq rfl ?_;cases h2;cases hd2 _ rfl
  exact .thenN<|.hU rfl zw
 refine .seq<|.seq<|.bd h fun r9 hr9 h=>.bd h fun bb1 hbb1 h=>.bd h fun r10 hr10 h=>.regionX (iN [0,4,8,16] (.alt (iN [15] (iN [23] (iN [27,28] .nil))) (iN [23] (iN [15] (iN [27,28] .nil))))) _ mixed (by kernel_rfl) (zl [1,1,1,1] 7 rfl)<|.shareK (Y:=?Ynd1_0) 6 (fun (e:Option Addr × Nat)=>[0, .s 132 (.pointer (zBZ o3.store gb2)), .s 134 (.slice e.1 r9.length e.2)]) (fun e=>[0,4, .res (zM eu8 5 e.1 e.2 r9), .ro (SlL yH A14 c14 r5.1),1,2,3]) rfl rfl (fun hnd1_0=>?mnd1_0) ?tnd1_0
 case mnd1_0=>
  refine .yn 4 rfl<|.xalt ?_ ?_
  ·refine .xef<|.lb 0 0 rfl<|.xk (zl [1,1,1,1] 7 rfl)<|.xef<|.asrt (fun _ w=>(w.sl [5] 0 rfl).meltL)<|.cr 12 [5,4,3,2] [1,4] 0 (pH (gb1:=gb1) hr9) zQm rfl fun A36 c36=>.xk (zl [4,4,4,1] 8 rfl) ?_;refine hnd1_0 _ _ (A36,c36) ?_ ?_
   ·exact ⟨rfl,rfl,rfl,trivial⟩
   exact fun _ w=>w
  refine .xef<|.asrt (fun _ w=>(w.sl [5] 0 rfl).meltL)<|.cr 12 [5,4,3,2] [1,4] 0 (pH (gb1:=gb1) hr9) zQm rfl fun A36 c36=>.xk (zl [4,4,4,1] 8 rfl)<|.xef<|.lb 0 0 rfl<|.xk (zl [4,4,4,1] 8 rfl) ?_;refine hnd1_0 _ _ (A36,c36) ?_ ?_
  ·exact ⟨rfl,rfl,rfl,trivial⟩
  exact fun _ w=>w
 case tnd1_0=>
  rintro ⟨A36,c36⟩;refine .nm 12 rfl<|.xef ?_;refine .ss 132 (kF hbb1)<|.asrt (fun _ w=>(w.sl [2] 0 rfl).meltL)<|.call (iH (gb1:=gb2) (gb2:=gb3) hr10) zUU rfl rfl rfl (zd [5] [7,7,7,7,7] 0 rfl) ?_;rintro _ _ ⟨M2,A37,c37,A38,c38,rfl,rfl⟩;refine .nm 12 rfl<|.xk (zl [9,9,9,7] 8 rfl)<|.yn 1 rfl<|.xdone<|.thenN<|.pf [0,4] [0,0,0,0,0] 1 rfl rfl<|.ab [0,4,137] rfl<|.cb h rfl (fun h=>?_) (fun h=>?_)
  ·refine .ab [2] rfl ?_;cases h;exact .rv rfl rfl ⟨A21,c21,A22,c22,A23,c23,A24,c24,A14,c14,M2,A37,c37,A38,c38,rfl,rfl⟩ (zk 11 4 [10,9,8,7] [5,5] 0 rfl)
  refine .sk<|.pr [0] rfl<|.a 5 rfl<|.sb 4 5 rfl<|.n 2 rfl<|.sb 3 0 rfl<|.bf [] [0,0,0,0,0,0,0,0] 2 rfl rfl<|.ae rfl<|.asrt (fun _ w=>w.nilSl (cod yU))<|.asrt (fun _ w=>w.nilSl (cod eu8)) ?_;cases h;exact .rv rfl rfl ⟨A21,c21,A22,c22,none,0,none,0,A14,c14,M2,A37,c37,A38,c38,rfl,rfl⟩ (zk 11 4 [10,8,7,9] [2,7,2,2,2,2,2] 0 rfl)
theorem zTm:Ent Tryz.prog 34:=en Tryz.func34 (by kernel_rfl)
noncomputable def pU (d_p0:zB):Option (zB × Int):=
 bnd (tT d_p0) fun r1=>bif (r1 != 0) then (some ((⟨⟨#[]⟩,(⟨(⟨(⟨⟨#[]⟩,(⟨0,0,0⟩:zK), []⟩:zH),0⟩:yB),(⟨(⟨⟨#[]⟩,(⟨0,0,0⟩:zK), []⟩:zH),0⟩:yB)⟩:(rA yB)),0,0,false⟩:zB),r1)) else (bnd (uZ d_p0) fun r2=>bnd (elt [d_p0.Slots.e0,d_p0.Slots.e1] r2) fun x1=>bnd (oK d_p0 x1) fun r3=>bif !r3 then (some ((⟨⟨#[]⟩,(⟨(⟨(⟨⟨#[]⟩,(⟨0,0,0⟩:zK), []⟩:zH),0⟩:yB),(⟨(⟨⟨#[]⟩,(⟨0,0,0⟩:zK), []⟩:zH),0⟩:yB)⟩:(rA yB)),0,0,false⟩:zB),46)) else (bnd (uX d_p0) fun r4=>some ((⟨r4.Name,r4.Slots,r4.Active,r4.Running,true⟩:zB),0)))
end Go.Proofs.YtplchdlgdjcojaaGreatDoor
end
section
namespace Go.Proofs.YtplchdlgdjcojaaGreatDoor
open Go
set_option linter.unusedVariables false
set_option maxHeartbeats 4000000
set_option maxRecDepth 4000
theorem eU {d_p0 A1 c1 A2 c2 r} (h:pU d_p0=some r):
    Fun Tryz.prog 34 [.agg (zN d_p0 A1 c1 A2 c2).toArray] [.ro (SlL eu8 A1 c1 d_p0.Slots.e0.Image.Data), .ro (SlL eu8 A2 c2 d_p0.Slots.e1.Image.Data)] (fun v F=>∃ A3 c3 A4 c4,v= .tuple #[.agg (zN r.1 A3 c3 A4 c4).toArray, .int .i64 r.2]∧F= [.ro (SlL eu8 A3 c3 r.1.Slots.e0.Image.Data), .ro (SlL eu8 A4 c4 r.1.Slots.e1.Image.Data)]):=by
 refine Fun.intro Tryz.func34 rfl rfl rfl fun w R=>?_;refine .seq<|.region<|.box rfl rfl fun g1=>.alloc rfl rfl fun g2=>.b [1,2] rfl<|.seq<|.seq<|.region<|.lb 0 1 rfl<|.bd h fun r1 hr1 h=>.cv [2,3] (mK hr1) zOh rfl<|.b [1,2,4] rfl<|.ab [1,2,4,9] rfl<|.cb h rfl (fun h=>?_) (fun h=>?_)
 ·refine .a 2 rfl<|.sb 0 0 rfl<|.bf [2,3] [0] 3 rfl rfl<|.asrt (fun _ w=>w.nilSl (cod eu8))<|.asrt (fun _ w=>w.nilSl (cod eu8)) ?_;cases h;exact .rt rfl Tryz.results34 (.cell rfl (.tail _ (.tail _ (.head _))) rfl (.tmp rfl .nil)) rfl ⟨none,0,none,0,rfl,rfl⟩ (zk 2 3 [0,0] [] 0 rfl)
 refine .sk<|.pr [1,2] rfl<|.seq<|.seq<|.regionX (iN [0,7,8,15,19,20] .nil) _ mixed (by kernel_rfl) zw<|.yl 0 1 rfl<|.xef<|.bd h fun r2 hr2 h=>.cq 4 [2,3] [1] 0 (nM hr2) zHU rfl<|.xk (zl [1] 0 rfl)<|.yn 1 rfl<|.xef<|.bd h fun x1 hx1 h=>.ldP (ls:=oQ) 0 [.string d_p0.Name] [.int .i64 d_p0.Active, .int .i64 d_p0.Running, .bool d_p0.Trial] [(d_p0.Slots.e0,((A1,c1),())),(d_p0.Slots.e1,((A2,c2),()))] (fun ex=>.agg (mZ x1 ex.1.1 ex.1.2).toArray) hx1 rfl rfl (.head _) rfl rfl rfl ⟨(zm 2 rfl),(zm 3 rfl),trivial⟩ rfl (fun _=>rfl) fun ex1=>?_;obtain ⟨⟨A3,c3⟩,_⟩:=ex1;refine .nm 5 rfl<|.xk (zl [2] 1 rfl)<|.xef<|.bd h fun r3 hr3 h=>.cv [3,4,0] (fL hr3) zLb rfl<|.xk (zl [2] 1 rfl)<|.yn 1 rfl<|.xdone<|.thenN<|.pf [1,2,17] [] 1 rfl rfl<|.cb h rfl (fun h=>?_) (fun h=>?_)
 ·refine .a 1 rfl<|.sb 0 1 rfl<|.bf [2,3] [0] 3 rfl rfl<|.asrt (fun _ w=>w.nilSl (cod eu8))<|.asrt (fun _ w=>w.nilSl (cod eu8)) ?_;cases h;exact .rt rfl Tryz.results34 (.cell rfl (.tail _ (.tail _ (.head _))) rfl (.tmp rfl .nil)) rfl ⟨none,0,none,0,rfl,rfl⟩ (zk 2 3 [0,0] [] 0 rfl)
 refine .sk<|.pr [1,2] rfl<|.seq<|.region<|.lb 0 0 rfl<|.bd h fun r4 hr4 h=>.ct 6 [2,3] [] 0 (pV hr4) zFI rfl fun A4 c4 A5 c5=>.alloc rfl rfl fun g3=>.sb 0 0 rfl<|.bf [2,5] [0,0,0,1] 3 rfl rfl<|.a 1 rfl<|.sb 15 0 rfl<|.b [2,5] rfl<|.seq<|.region<|.lb 0 0 rfl<|.sb 0 3 rfl<|.bf [2,3] [0] 1 rfl rfl ?_;cases h;exact .rt rfl Tryz.results34 (.cell rfl (.head _) rfl (.tmp rfl .nil)) rfl ⟨A4,c4,A5,c5,rfl,rfl⟩ (zk 2 3 [1,2] [] 0 rfl)
theorem zQy:Ent Tryz.prog 317:=en Tryz.func317 (by kernel_rfl)
noncomputable def oM (d_p0:zB):Option (zB × Int):=
 bnd (uY d_p0) fun r1=>bif !r1 then (some ((⟨⟨#[]⟩,(⟨(⟨(⟨⟨#[]⟩,(⟨0,0,0⟩:zK), []⟩:zH),0⟩:yB),(⟨(⟨⟨#[]⟩,(⟨0,0,0⟩:zK), []⟩:zH),0⟩:yB)⟩:(rA yB)),0,0,false⟩:zB),1)) else (bif d_p0.Trial then (some ((⟨⟨#[]⟩,(⟨(⟨(⟨⟨#[]⟩,(⟨0,0,0⟩:zK), []⟩:zH),0⟩:yB),(⟨(⟨⟨#[]⟩,(⟨0,0,0⟩:zK), []⟩:zH),0⟩:yB)⟩:(rA yB)),0,0,false⟩:zB),46)) else (bnd (uX d_p0) fun r2=>some ((⟨r2.Name,r2.Slots,r2.Running,r2.Running,r2.Trial⟩:zB),0)))
theorem aC {d_p0 A1 c1 A2 c2 r} (h:oM d_p0=some r):
    Fun Tryz.prog 317 [.agg (zN d_p0 A1 c1 A2 c2).toArray] [.ro (SlL eu8 A1 c1 d_p0.Slots.e0.Image.Data), .ro (SlL eu8 A2 c2 d_p0.Slots.e1.Image.Data)] (fun v F=>∃ A3 c3 A4 c4,v= .tuple #[.agg (zN r.1 A3 c3 A4 c4).toArray, .int .i64 r.2]∧F= [.ro (SlL eu8 A3 c3 r.1.Slots.e0.Image.Data), .ro (SlL eu8 A4 c4 r.1.Slots.e1.Image.Data)]):=by
 refine Fun.intro Tryz.func317 rfl rfl rfl fun w R=>?_;refine .seq<|.region<|.box rfl rfl fun g1=>.alloc rfl rfl fun g2=>.b [1,2] rfl<|.seq<|.seq<|.region<|.lb 0 1 rfl<|.bd h fun r1 hr1 h=>.cv [2,3] (pB hr1) zFH rfl<|.b [1,2,7] rfl<|.cb h rfl (fun h=>?_) (fun h=>?_)
 ·refine .a 1 rfl<|.sb 0 0 rfl<|.bf [2,3] [0] 3 rfl rfl<|.asrt (fun _ w=>w.nilSl (cod eu8))<|.asrt (fun _ w=>w.nilSl (cod eu8)) ?_;cases h;exact .rt rfl Tryz.results317 (.cell rfl (.tail _ (.tail _ (.head _))) rfl (.tmp rfl .nil)) rfl ⟨none,0,none,0,rfl,rfl⟩ (zk 2 3 [0,0] [] 0 rfl)
 refine .sk<|.pr [1,2] rfl<|.seq<|.a 1 rfl<|.lb 15 1 rfl<|.b [1,2,10] rfl<|.cb h rfl (fun h=>?_) (fun h=>?_)
 ·refine .a 1 rfl<|.sb 0 0 rfl<|.bf [2,3] [0] 3 rfl rfl<|.asrt (fun _ w=>w.nilSl (cod eu8))<|.asrt (fun _ w=>w.nilSl (cod eu8)) ?_;cases h;exact .rt rfl Tryz.results317 (.cell rfl (.tail _ (.tail _ (.head _))) rfl (.tmp rfl .nil)) rfl ⟨none,0,none,0,rfl,rfl⟩ (zk 2 3 [0,0] [] 0 rfl)
 refine .sk<|.pr [1,2] rfl<|.seq<|.region<|.lb 0 1 rfl<|.bd h fun r2 hr2 h=>.ct 6 [2,3] [] 0 (pV hr2) zFI rfl fun A3 c3 A4 c4=>.alloc rfl rfl fun g3=>.sb 0 0 rfl<|.bf [2,4] [0,0,0,0] 3 rfl rfl<|.a 1 rfl<|.lb 14 0 rfl<|.p rfl rfl<|.sb 13 0 rfl<|.b [2,4] rfl<|.seq<|.region<|.lb 0 0 rfl<|.sb 0 3 rfl<|.bf [2,3] [0] 1 rfl rfl ?_;cases h;exact .rt rfl Tryz.results317 (.cell rfl (.head _) rfl (.tmp rfl .nil)) rfl ⟨A3,c3,A4,c4,rfl,rfl⟩ (zk 2 3 [1,2] [] 0 rfl)
theorem zVw:Ent Tryz.prog 315:=en Tryz.func315 (by kernel_rfl)
noncomputable def wF (a_p0:zD) (good:Bool) (a_p0_store:zC) (a_p0_store_d:zA):Option (zD × zC × zA × Int × Int):=
 bnd (yV a_p0.order a_p0) fun r1=>bnd (elt a_p0.order r1) fun x1=>bnd (elt a_p0.devices x1) fun x2=>bnd (pU x2) fun r2=>bif (r2.2 != 0) then (some (a_p0,a_p0_store,a_p0_store_d,0,r2.2)) else (bnd (oO r2.1) fun r3=>bif good then (bnd (oM r3) fun r4=>bif (r4.2 != 0) then (some (a_p0,a_p0_store,a_p0_store_d,0,r4.2)) else (bnd (elt a_p0.devices x1) fun x3=>bnd (tH a_p0.devices x1 r4.1) fun l1=>bnd (xA (⟨a_p0.store,l1,a_p0.needs,a_p0.phase,a_p0.load,a_p0.before,a_p0.order⟩:zD) a_p0_store a_p0_store_d) fun r5=>bif (r5.2.2.2 != 0) then (some (r5.1,r5.2.1,r5.2.2.1,0,r5.2.2.2)) else (some (r5.1,r5.2.1,r5.2.2.1,x1,0)))) else (bnd (oO r3) fun r6=>bnd (elt a_p0.devices x1) fun x4=>bnd (tH a_p0.devices x1 r6) fun l2=>bnd (yQ a_p0.order (⟨a_p0.store,l2,a_p0.needs,a_p0.phase,a_p0.load,a_p0.before,a_p0.order⟩:zD)) fun r7=>bif !r7 then (bnd (vR (⟨a_p0.store,l2,a_p0.needs,a_p0.phase,a_p0.load,a_p0.before,a_p0.order⟩:zD) a_p0_store a_p0_store_d) fun r8=>bif (r8.2.2.2 != 0) then (some (r8.1,r8.2.1,r8.2.2.1,0,r8.2.2.2)) else (some (r8.1,r8.2.1,r8.2.2.1,x1,0))) else (bnd (wV (⟨a_p0.store,l2,a_p0.needs,a_p0.phase,a_p0.load,a_p0.before,a_p0.order⟩:zD) 3) fun r9=>bnd (fQ a_p0.store) fun bb1=>bnd (tB a_p0_store 32 r9 a_p0_store_d) fun r10=>bif (r10.2.2 != 0) then (some ((⟨a_p0.store,l2,a_p0.needs,a_p0.phase,a_p0.load,a_p0.before,a_p0.order⟩:zD),r10.1,r10.2.1,0,r10.2.2)) else (some ((⟨a_p0.store,l2,a_p0.needs,3,a_p0.load,a_p0.before,a_p0.order⟩:zD),r10.1,r10.2.1,x1,0)))))
theorem cB {a_p0 good a_p0_store a_p0_store_d A1 c1 A2 c2 A3 c3 A4 c4 A5 c5 A6 c6 A7 c7 M1 gb1 gb2 gb3 r} (h:wF a_p0 good a_p0_store a_p0_store_d=some r):
    Fun Tryz.prog 315 [.pointer (some ⟨gb1,0,none⟩), .bool good] [.ro (SlL zR A2 c2 a_p0.needs), .ro (SlL yU A3 c3 a_p0.load.Have), .ro (SlL eu8 A4 c4 a_p0.load.Data), .ro (SlL yH A5 c5 a_p0.order), .res (Box gb1 144 (zI a_p0 gb2 A1 c1 A2 c2 A3 c3 A4 c4 A5 c5)), .res (xK (yL zE) 64 A1 c1 a_p0.devices), .res (Box gb2 135 (zO a_p0_store gb3 M1)), .res (yO (yF .u8) (cod eu8) M1 a_p0_store.all), .res (Box gb3 131 (zG a_p0_store_d A6 c6 A7 c7)), .res (zM eu8 5 A6 c6 a_p0_store_d.bytes), .res (zM yH 3 A7 c7 a_p0_store_d.wear)] (fun v F=>∃ A8 c8 A9 c9 A10 c10 A11 c11 A12 c12 M2 A13 c13 A14 c14,v= .tuple #[.int .i64 r.2.2.2.1, .int .i64 r.2.2.2.2]∧F= [.ro (SlL zR A9 c9 r.1.needs), .ro (SlL yU A10 c10 r.1.load.Have), .ro (SlL eu8 A11 c11 r.1.load.Data), .ro (SlL yH A12 c12 r.1.order), .res (Box gb1 144 (zI r.1 gb2 A8 c8 A9 c9 A10 c10 A11 c11 A12 c12)), .res (xK (yL zE) 64 A8 c8 r.1.devices), .res (Box gb2 135 (zO r.2.1 gb3 M2)), .res (yO (yF .u8) (cod eu8) M2 r.2.1.all), .res (Box gb3 131 (zG r.2.2.1 A13 c13 A14 c14)), .res (zM eu8 5 A13 c13 r.2.2.1.bytes), .res (zM yH 3 A14 c14 r.2.2.1.wear)]):=by
 unfold wF at h
 refine Fun.intro Tryz.func315 rfl rfl rfl fun w R=>?_;refine .ab [0,1] rfl<|.seq<|.regionX (iN [0,4,8,12,16,20,24,29,32,36,43,45,49,52] .nil) _ mixed (by kernel_rfl) zw<|.yn 3 rfl<|.yl 9 4 rfl<|.yn 3 rfl<|.yx 9 4 rfl<|.yn 2 rfl<|.xef<|.bd h fun r1 hr1 h=>.cq 11 [5,2,3,4,5] [4,4] 0 (rQ (gb1:=gb1) hr1) zMU rfl<|.xk (zl [2,2,2,2] 0 rfl)<|.bd h fun x1 hx1 h=>.openA (zm 5 rfl) hx1 fun b1 ob1 hqb1=>.asrt (fun _ w=>Sat.addC hqb1 (zm 5 rfl) hx1 w) ?_;have hc1:=fun w h=>Sat.addC hqb1 (zm 3 rfl) hx1 ((fun (w:World) (h:Sat (.ro (SlL zR A2 c2 a_p0.needs):: .ro (SlL yU A3 c3 a_p0.load.Have):: .ro (SlL eu8 A4 c4 a_p0.load.Data):: .ro (SlL yH A5 c5 a_p0.order):: .res (Box gb1 144 (zI a_p0 gb2 A1 c1 A2 c2 A3 c3 A4 c4 A5 c5)):: .res (xK (yL zE) 64 A1 c1 a_p0.devices):: .res (Box gb2 135 (zO a_p0_store gb3 M1)):: .res (yO (yF .u8) (cod eu8) M1 a_p0_store.all):: .res (Box gb3 131 (zG a_p0_store_d A6 c6 A7 c7)):: .res (zM eu8 5 A6 c6 a_p0_store_d.bytes):: .res (zM yH 3 A7 c7 a_p0_store_d.wear)::R) w)=>h) w h);refine .xfx (Rd.ixL (E:=yH) hqb1 hx1 rfl rfl rfl rfl rfl rfl rfl) rfl<|.xfx (Rd.load ob1 0 rfl (.head _) rfl rfl) rfl<|.yn 1 rfl<|.xdone<|.thenN<|.pf [0,1,6] [] 1 rfl rfl<|.a 3 rfl<|.lb 1 0 rfl<|.p rfl rfl<|.bd h fun x2 hx2 h=>.ixC hx2 rfl rfl rfl (.tail _ (.head _)) rfl rfl rfl rfl rfl fun g1 hA=>?_;subst hA;refine .ldC (ls:=zE) 0 (fun ex=>.agg (zN x2 ex.1.1 ex.1.2 ex.2.1.1 ex.2.1.2).toArray) hx2 rfl rfl (.tail _ (.head _)) rfl (fun _=>rfl) fun ex1=>?_;obtain ⟨⟨A8,c8⟩,⟨⟨A9,c9⟩,_⟩⟩:=ex1;refine .nm 13 rfl<|.bd h fun r2 hr2 h=>.ct 15 [0,1] [] 0 (eU hr2) zTm rfl fun A10 c10 A11 c11=>.n 3 rfl<|.alloc rfl rfl fun g2=>.sb 0 0 rfl<|.bf [0,1,6,7,8] [0,0,0] 2 rfl rfl<|.seq<|.ab [0,1,6,7,8,34] rfl<|.cb h rfl (fun h=>?_) (fun h=>?_)
 ·refine .abf [4,5] [] 3 rfl rfl ?_;cases h;exact .rv rfl rfl ⟨(some ⟨g1,0,none⟩),c1,A2,c2,A3,c3,A4,c4,A5,c5,M1,A6,c6,A7,c7,rfl,rfl⟩ (zk 11 4 [7,8,9,10] [0,0,4,4,4,4,4] 0 rfl)
 refine .sk<|.pr [0,1,6,7] rfl<|.seq<|.region<|.lb 0 0 rfl<|.bd h fun r3 hr3 h=>.ct 16 [1,2] [] 0 (jW hr3) zHy rfl fun A12 c12 A13 c13=>.sb 0 2 rfl<|.bf [0,1,6,7] [0,0,0] 2 rfl rfl<|.seq<|.ab [0,6,7,38] rfl<|.cb h rfl (fun h=>?_) (fun h=>?_)
 ·refine .seq<|.seq<|.region<|.lb 0 0 rfl<|.bd h fun r4 hr4 h=>.ct 16 [1,2] [] 0 (aC hr4) zQy rfl fun A14 c14 A15 c15=>.n 3 rfl<|.sb 0 2 rfl<|.bf [0,6,7,8] [0,0,0] 2 rfl rfl<|.ab [0,6,7,8,45] rfl<|.cb h rfl (fun h=>?_) (fun h=>?_)
  ·refine .abf [4,5] [] 3 rfl rfl ?_;cases h;exact .rv rfl rfl ⟨(some ⟨g1,0,none⟩),c1,A2,c2,A3,c3,A4,c4,A5,c5,M1,A6,c6,A7,c7,rfl,rfl⟩ (zk 11 4 [7,8,9,10] [0,0,4,4,4,4,4] 0 rfl)
  refine .sk<|.pr [0,6,7] rfl<|.seq<|.regionX (iN [0,4,8,13,16,21,25,31] .nil) _ mixed (by kernel_rfl) (zl [0,0,0] 2 rfl)<|.yn 3 rfl<|.yx 1 3 rfl<|.yn 1 rfl<|.yx 0 0 rfl<|.bd h fun x3 hx3 h=>.xfx (Rd.ixOC (n':=16) hx3 rfl rfl rfl rfl rfl rfl rfl) rfl<|.xef<|.bd h fun l1 hl1 h=>.stC (ls:=zE) 0 (fun ex=>((A14,c14),((A15,c15),()))) hx3 hl1 rfl rfl (.s (.s (.s (.s .z)))) rfl rfl rfl rfl (fun _=>rfl) (fun _=>⟨(zm 3 rfl),(zm 4 rfl),trivial⟩) ?_;refine .ss 50 (wZ hl1)<|.asrt (F':=.res (xK (yL zE) 64 (some ⟨g1,0,none⟩) c1 l1):: .res (Box g2 64 (zN r4.1 A14 c14 A15 c15)):: .ro (SlL eu8 A14 c14 r4.1.Slots.e0.Image.Data):: .ro (SlL eu8 A15 c15 r4.1.Slots.e1.Image.Data):: .res (Box gb1 144 [.pointer (zBZ a_p0.store gb2), .slice (some ⟨g1,0,none⟩) l1.length c1, .slice A2 a_p0.needs.length c2, .int .i64 a_p0.phase, .int .i64 a_p0.load.Size, .int .i64 a_p0.load.Part, .slice A3 a_p0.load.Have.length c3, .slice A4 a_p0.load.Data.length c4, .int .u8 a_p0.before, .slice A5 a_p0.order.length c5]):: .ro (SlL zR A2 c2 a_p0.needs):: .ro (SlL yU A3 c3 a_p0.load.Have):: .ro (SlL eu8 A4 c4 a_p0.load.Data):: .ro (SlL yH A5 c5 a_p0.order):: .res (Box gb2 135 (zO a_p0_store gb3 M1)):: .res (yO (yF .u8) (cod eu8) M1 a_p0_store.all):: .res (Box gb3 131 (zG a_p0_store_d A6 c6 A7 c7)):: .res (zM eu8 5 A6 c6 a_p0_store_d.bytes):: .res (zM yH 3 A7 c7 a_p0_store_d.wear)::R) (fun _ w=>by rw [oL hl1]; exact w)<|.xk (zl [1,1,1] 2 rfl)<|.xdone<|.thenN<|.pf [0,6] [0] 3 rfl rfl<|.seq<|.a 1 rfl<|.bd h fun r5 hr5 h=>.call (pZ (gb1:=gb1) (gb2:=gb2) (gb3:=gb3) hr5) zRL rfl rfl rfl (zd [7,8,9,10] [1,0,4,4,4,4,4] 0 rfl) ?_;rintro _ _ ⟨A16,c16,A17,c17,A18,c18,A19,c19,A20,c20,M2,A21,c21,A22,c22,rfl,rfl⟩;refine .nm 15 rfl<|.bf [6,8] [0,0,0,0,0,0,0,0,0,0,0] 4 rfl rfl<|.ab [6,8,57] rfl<|.cb h rfl (fun h=>?_) (fun h=>?_)
  ·refine .ab [4,5] rfl ?_;cases h;exact .rv rfl rfl ⟨A16,c16,A17,c17,A18,c18,A19,c19,A20,c20,M2,A21,c21,A22,c22,rfl,rfl⟩ (zk 11 4 [7,8,9,10] [4,4,4,4,4,4,4] 0 rfl)
  refine .sk<|.pr [6] rfl<|.ab [4,5] rfl ?_;cases h;exact .rv rfl rfl ⟨A16,c16,A17,c17,A18,c18,A19,c19,A20,c20,M2,A21,c21,A22,c22,rfl,rfl⟩ (zk 11 4 [7,8,9,10] [4,4,4,4,4,4,4] 0 rfl)
 refine .sk<|.pr [0,6,7] rfl<|.seq<|.bd h fun r6 hr6 h=>.bd h fun x4 hx4 h=>.bd h fun l2 hl2 h=>.regionX (iN [0,4,8,16,20] (.alt (iN [15] (iN [27,29] (iN [35] .nil))) (iN [27] (iN [15,29] (iN [35] .nil))))) _ mixed (by kernel_rfl) (zl [0,0,0] 2 rfl)<|.shareK (Y:=?Ynd1_0) 0 (fun (e:Option Addr × Nat × Option Addr × Nat)=>[0,6, .s 63 (.slice (some ⟨g1,0,none⟩) a_p0.devices.length c1), .s 64 (.int .i64 x1), .s 66 (.agg (zN r6 e.1 e.2.1 e.2.2.1 e.2.2.2).toArray), .s 67 (.pointer (some ⟨g1,Int.toNat x1*16,none⟩))]) (fun e=>[.ro (SlL eu8 e.1 e.2.1 r6.Slots.e0.Image.Data), .ro (SlL eu8 e.2.2.1 e.2.2.2 r6.Slots.e1.Image.Data)]) rfl rfl (fun hnd1_0=>?mnd1_0) ?tnd1_0
 case mnd1_0=>
  refine .yn 4 rfl<|.yl 0 0 rfl<|.xalt ?_ ?_
  ·refine .xef<|.lb 1 3 rfl<|.xk (zl [0,0,0] 2 rfl)<|.xef<|.ct 16 [1,2] [] 0 (jW hr6) zHy rfl fun A23 c23 A24 c24=>.xk (zl [2,2,2] 4 rfl)<|.xfx (Rd.ixOC (n':=16) hx4 rfl rfl rfl rfl rfl rfl rfl) rfl ?_;refine hnd1_0 _ _ (A23,c23,A24,c24) ?_ ?_
   ·exact ⟨rfl,rfl,rfl,rfl,rfl,rfl,trivial⟩
   exact fun _ w=>w
  refine .xef<|.ct 16 [1,2] [] 0 (jW hr6) zHy rfl fun A23 c23 A24 c24=>.xk (zl [2,2,2] 4 rfl)<|.xef<|.lb 1 5 rfl<|.xk (zl [2,2,2] 4 rfl)<|.xfx (Rd.ixOC (n':=16) hx4 rfl rfl rfl rfl rfl rfl rfl) rfl ?_;refine hnd1_0 _ _ (A23,c23,A24,c24) ?_ ?_
  ·exact ⟨rfl,rfl,rfl,rfl,rfl,rfl,trivial⟩
  exact fun _ w=>w
 case tnd1_0=>
  rintro ⟨A23,c23,A24,c24⟩;refine .nm 16 rfl<|.xef<|.stC (ls:=zE) 0 (fun ex=>((A23,c23),((A24,c24),()))) hx4 hl2 rfl rfl (.s (.s (.s (.s (.s (.s .z)))))) rfl rfl rfl rfl (fun _=>rfl) (fun _=>⟨(zm 2 rfl),(zm 3 rfl),trivial⟩) ?_;refine .ss 63 (wZ hl2)<|.asrt (F':=.res (xK (yL zE) 64 (some ⟨g1,0,none⟩) c1 l2):: .ro (SlL eu8 A23 c23 r6.Slots.e0.Image.Data):: .ro (SlL eu8 A24 c24 r6.Slots.e1.Image.Data):: .res (Box g2 64 (zN r3 A12 c12 A13 c13)):: .ro (SlL eu8 A12 c12 r3.Slots.e0.Image.Data):: .ro (SlL eu8 A13 c13 r3.Slots.e1.Image.Data):: .res (Box gb1 144 [.pointer (zBZ a_p0.store gb2), .slice (some ⟨g1,0,none⟩) l2.length c1, .slice A2 a_p0.needs.length c2, .int .i64 a_p0.phase, .int .i64 a_p0.load.Size, .int .i64 a_p0.load.Part, .slice A3 a_p0.load.Have.length c3, .slice A4 a_p0.load.Data.length c4, .int .u8 a_p0.before, .slice A5 a_p0.order.length c5]):: .ro (SlL zR A2 c2 a_p0.needs):: .ro (SlL yU A3 c3 a_p0.load.Have):: .ro (SlL eu8 A4 c4 a_p0.load.Data):: .ro (SlL yH A5 c5 a_p0.order):: .res (Box gb2 135 (zO a_p0_store gb3 M1)):: .res (yO (yF .u8) (cod eu8) M1 a_p0_store.all):: .res (Box gb3 131 (zG a_p0_store_d A6 c6 A7 c7)):: .res (zM eu8 5 A6 c6 a_p0_store_d.bytes):: .res (zM yH 3 A7 c7 a_p0_store_d.wear)::R) (fun _ w=>by rw [oL hl2]; exact w)<|.xk (zl [3,3,3] 4 rfl)<|.xdone<|.thenN<|.pf [0,6] [0] 5 rfl rfl<|.seq<|.a 3 rfl<|.lb 9 1 rfl<|.n 2 rfl<|.bd h fun r7 hr7 h=>.cq 11 [5,2,3,4,5] [1] 0 (sF (gb1:=gb1) hr7) zMm rfl<|.b [0,6,75] rfl<|.cb h rfl (fun h=>?_) (fun h=>?_)
  ·refine .seq<|.a 1 rfl<|.bd h fun r8 hr8 h=>.call (mQ (gb1:=gb1) (gb2:=gb2) (gb3:=gb3) hr8) zNl rfl rfl rfl (zd [7,8,9,10] [0,0,4,4,4,4,4] 0 rfl) ?_;rintro _ _ ⟨A25,c25,A26,c26,A27,c27,A28,c28,A29,c29,M3,A30,c30,A31,c31,rfl,rfl⟩;refine .nm 15 rfl<|.bf [6,8] [0,0,0,0,0,0,0,0,0,0,0] 4 rfl rfl<|.ab [6,8,79] rfl<|.cb h rfl (fun h=>?_) (fun h=>?_)
   ·refine .ab [4,5] rfl ?_;cases h;exact .rv rfl rfl ⟨A25,c25,A26,c26,A27,c27,A28,c28,A29,c29,M3,A30,c30,A31,c31,rfl,rfl⟩ (zk 11 4 [7,8,9,10] [4,4,4,4,4,4,4] 0 rfl)
   refine .sk<|.pr [6] rfl<|.ab [4,5] rfl ?_;cases h;exact .rv rfl rfl ⟨A25,c25,A26,c26,A27,c27,A28,c28,A29,c29,M3,A30,c30,A31,c31,rfl,rfl⟩ (zk 11 4 [7,8,9,10] [4,4,4,4,4,4,4] 0 rfl)
  refine .sk<|.pr [0,6] rfl<|.seq<|.seq<|.regionX (iN [0,4,8,12,16,23,27,28] .nil) _ mixed (by kernel_rfl) (zl [0,0,0,0,0,0] 5 rfl)<|.yn 3 rfl<|.yl 0 0 rfl<|.yn 1 rfl<|.xef<|.bd h fun r9 hr9 h=>.cr 12 [2,3,4,5] [] 0 (pH (gb1:=gb1) hr9) zQm rfl fun A32 c32=>.xk (zl [0,0,1,1,1,1] 6 rfl)<|.xef<|.bd h fun bb1 hbb1 h=>?_;refine .ss 85 (kF hbb1)<|.asrt (fun _ w=>(w.sl [2] 0 rfl).meltL)<|.bd h fun r10 hr10 h=>.call (iH (gb1:=gb2) (gb2:=gb3) hr10) zUU rfl rfl rfl (zd [5] [7,7,7,7,7] 0 rfl) ?_;rintro _ _ ⟨M4,A33,c33,A34,c34,rfl,rfl⟩;refine .nm 12 rfl<|.xk (zl [] 6 rfl)<|.yn 1 rfl<|.xdone<|.thenN<|.pf [0,6,8] [0,0,0,0,0] 1 rfl rfl<|.ab [0,6,8,90] rfl<|.cb h rfl (fun h=>?_) (fun h=>?_)
  ·refine .ab [4,5] rfl ?_;cases h;exact .rv rfl rfl ⟨(some ⟨g1,0,none⟩),c1,A2,c2,A3,c3,A4,c4,A5,c5,M4,A33,c33,A34,c34,rfl,rfl⟩ (zk 11 4 [7,8,9,10] [5,5] 0 rfl)
  refine .sk<|.pr [0,6] rfl<|.a 3 rfl<|.sb 3 5 rfl<|.b [6] rfl<|.ab [4,5] rfl ?_;cases h;exact .rv rfl rfl ⟨(some ⟨g1,0,none⟩),c1,A2,c2,A3,c3,A4,c4,A5,c5,M4,A33,c33,A34,c34,rfl,rfl⟩ (zk 11 4 [7,8,9,10] [0,5] 0 rfl)
theorem zWh:Ent Tryz.prog 316:=en Tryz.func316 (by kernel_rfl)
noncomputable def tQ (a_p0:zD) (p1_p1:Bool) (a_p0_store:zC) (a_p0_store_d:zA):Option (zD × zC × zA × Int × Int):=
 bnd (yG (τ:=Int) (fun (s1:Int × Int)=>bif decide (s1.2<(a_p0.order.length:Int)) then (bnd (elt a_p0.order s1.2) fun x1=>bnd (xV a_p0 x1) fun r1=>bif r1 then (some (.next (x1,IntKind.wrap .i64 (s1.2+1)))) else (some (.next (s1.1,IntKind.wrap .i64 (s1.2+1))))) else (some (.done s1.1))) (0,0)) fun o1=>bnd (elt a_p0.devices o1) fun x2=>bnd (pU x2) fun r2=>bif (r2.2 != 0) then (some (a_p0,a_p0_store,a_p0_store_d,0,r2.2)) else (bnd (oO r2.1) fun r3=>bnd (oM r3) fun r4=>bif (r4.2 != 0) then (some (a_p0,a_p0_store,a_p0_store_d,0,r4.2)) else (bnd (elt a_p0.devices o1) fun x3=>bnd (tH a_p0.devices o1 r4.1) fun l1=>bnd (xA (⟨a_p0.store,l1,a_p0.needs,a_p0.phase,a_p0.load,a_p0.before,a_p0.order⟩:zD) a_p0_store a_p0_store_d) fun r5=>bif (r5.2.2.2 != 0) then (some (r5.1,r5.2.1,r5.2.2.1,0,r5.2.2.2)) else (some (r5.1,r5.2.1,r5.2.2.1,o1,0))))
theorem dP {a_p0 p1_p1 a_p0_store a_p0_store_d A1 c1 A2 c2 A3 c3 A4 c4 A5 c5 A6 c6 A7 c7 M1 gb1 gb2 gb3 r} (h:tQ a_p0 p1_p1 a_p0_store a_p0_store_d=some r):
    Fun Tryz.prog 316 [.pointer (some ⟨gb1,0,none⟩), .bool p1_p1] [.ro (SlL zR A2 c2 a_p0.needs), .ro (SlL yU A3 c3 a_p0.load.Have), .ro (SlL eu8 A4 c4 a_p0.load.Data), .ro (SlL yH A5 c5 a_p0.order), .res (Box gb1 144 (zI a_p0 gb2 A1 c1 A2 c2 A3 c3 A4 c4 A5 c5)), .res (xK (yL zE) 64 A1 c1 a_p0.devices), .res (Box gb2 135 (zO a_p0_store gb3 M1)), .res (yO (yF .u8) (cod eu8) M1 a_p0_store.all), .res (Box gb3 131 (zG a_p0_store_d A6 c6 A7 c7)), .res (zM eu8 5 A6 c6 a_p0_store_d.bytes), .res (zM yH 3 A7 c7 a_p0_store_d.wear)] (fun v F=>∃ A8 c8 A9 c9 A10 c10 A11 c11 A12 c12 M2 A13 c13 A14 c14,v= .tuple #[.int .i64 r.2.2.2.1, .int .i64 r.2.2.2.2]∧F= [.ro (SlL zR A9 c9 r.1.needs), .ro (SlL yU A10 c10 r.1.load.Have), .ro (SlL eu8 A11 c11 r.1.load.Data), .ro (SlL yH A12 c12 r.1.order), .res (Box gb1 144 (zI r.1 gb2 A8 c8 A9 c9 A10 c10 A11 c11 A12 c12)), .res (xK (yL zE) 64 A8 c8 r.1.devices), .res (Box gb2 135 (zO r.2.1 gb3 M2)), .res (yO (yF .u8) (cod eu8) M2 r.2.1.all), .res (Box gb3 131 (zG r.2.2.1 A13 c13 A14 c14)), .res (zM eu8 5 A13 c13 r.2.2.1.bytes), .res (zM yH 3 A14 c14 r.2.2.1.wear)]):=by
 refine Fun.intro Tryz.func316 rfl rfl rfl fun w R=>?_;refine .ab [0] rfl<|.ae rfl<|.seq<|.a 3 rfl<|.lb 9 4 rfl<|.b [0,6,14,15,16] rfl<|.bd h fun o1 hl1 h=>.cu 0 [0, .s 6 (.int .i64 o1)] [] rfl rfl ?_ ?_
 ·refine .block<|.loopQ hl1 0 (fun (s1:Int × Int) (e1:Unit)=>[0, .s 6 (.int .i64 s1.1),14,15, .s 16 (.int .i64 s1.2)]) (fun s1 e1=>[]) rfl rfl () (zb rfl) (fun _ w=>w) ?_;rintro s1 e1 st1 hm1 hd1 h1;refine .ae rfl<|.seq<|.cb h1 rfl (fun h1=>?_) (fun h1=>?_)
  ·refine .sk<|.pr [0,6,14,15,16] rfl<|.seq<|.block<|.seq<|.region<|.bd h1 fun x1 hx1 h1=>.ix1 hx1 3 rfl fun b1 ob1=>.ld ob1 0 0 rfl<|.bf [0,6,8,14,15,16] [] 1 rfl rfl<|.a 2 rfl<|.bd h1 fun r1 hr1 h1=>.cq 11 [2,3,4,5] [4,4] 0 (pG (gb1:=gb1) hr1) zMf rfl<|.b [0,6,8,14,15,16,22] rfl<|.cb h1 rfl (fun h1=>?_) (fun h1=>?_)
   ·refine .region<|.n 2 rfl<|.done<|.blkN<|.thenN<|.pr [0,6,14,15,16] rfl<|.region ?_;cases h1;exact .be rfl<|.ag () hm1 rfl (zl [2,2,2,2] 0 rfl)
   refine .skip<|.blkN<|.thenN<|.pr [0,6,14,15,16] rfl<|.region ?_;cases h1;exact .be rfl<|.ag () hm1 rfl (zl [2,2,2,2] 0 rfl)
  refine .xq rfl ?_;cases h1;cases hd1 _ rfl
  exact .thenN<|.hU rfl zw
 refine .a 3 rfl<|.lb 1 4 rfl<|.p rfl rfl<|.bd h fun x2 hx2 h=>.ixC hx2 rfl rfl rfl (zm 5 rfl) rfl rfl rfl rfl rfl fun g1 hA=>?_;subst hA;refine .ldC (ls:=zE) 0 (fun ex=>.agg (zN x2 ex.1.1 ex.1.2 ex.2.1.1 ex.2.1.2).toArray) hx2 rfl rfl (zm 5 rfl) rfl (fun _=>rfl) fun ex1=>?_;obtain ⟨⟨A8,c8⟩,⟨⟨A9,c9⟩,_⟩⟩:=ex1;refine .nm 13 rfl<|.bd h fun r2 hr2 h=>.ct 15 [0,1] [] 0 (eU hr2) zTm rfl fun A10 c10 A11 c11=>.n 3 rfl<|.alloc rfl rfl fun g2=>.sb 0 0 rfl<|.bf [0,6,9,10] [0,0,0] 2 rfl rfl<|.seq<|.ab [0,6,9,10,37] rfl<|.cb h rfl (fun h=>?_) (fun h=>?_)
 ·refine .abf [4,5] [] 3 rfl rfl ?_;cases h;exact .rv rfl rfl ⟨(some ⟨g1,0,none⟩),c1,A2,c2,A3,c3,A4,c4,A5,c5,M1,A6,c6,A7,c7,rfl,rfl⟩ (zk 11 4 [7,8,9,10] [4,4,4,4,4,4,4] 0 rfl)
 refine .sk<|.pr [0,6,9] rfl<|.seq<|.seq<|.region<|.lb 0 0 rfl<|.bd h fun r3 hr3 h=>.ct 16 [1,2] [] 0 (jW hr3) zHy rfl fun A12 c12 A13 c13=>.bd h fun r4 hr4 h=>.ct 18 [0,1] [] 0 (aC hr4) zQy rfl fun A14 c14 A15 c15=>.n 3 rfl<|.sb 0 4 rfl<|.bf [0,6,9,10] [0,0,0] 4 rfl rfl<|.ab [0,6,9,10,46] rfl<|.cb h rfl (fun h=>?_) (fun h=>?_)
 ·refine .abf [4,5] [] 3 rfl rfl ?_;cases h;exact .rv rfl rfl ⟨(some ⟨g1,0,none⟩),c1,A2,c2,A3,c3,A4,c4,A5,c5,M1,A6,c6,A7,c7,rfl,rfl⟩ (zk 11 4 [7,8,9,10] [4,4,4,4,4,4,4] 0 rfl)
 refine .sk<|.pr [0,6,9] rfl<|.seq<|.regionX (iN [0,4,8,13,16,21,25,31] .nil) _ mixed (by kernel_rfl) (zl [0,0,0,0,0,0,0] 2 rfl)<|.yn 3 rfl<|.yx 1 7 rfl<|.yn 1 rfl<|.yx 0 0 rfl<|.bd h fun x3 hx3 h=>.xfx (Rd.ixOC (n':=16) hx3 rfl rfl rfl rfl rfl rfl rfl) rfl<|.xef<|.bd h fun l1 hl1 h=>.stC (ls:=zE) 0 (fun ex=>((A14,c14),((A15,c15),()))) hx3 hl1 rfl rfl (.s (.s (.s (.s (.s (.s (.s (.s .z)))))))) rfl rfl rfl rfl (fun _=>rfl) (fun _=>⟨(zm 3 rfl),(zm 4 rfl),trivial⟩) ?_;refine .ss 51 (wZ hl1)<|.asrt (F':=.res (xK (yL zE) 64 (some ⟨g1,0,none⟩) c1 l1):: .res (Box g2 64 (zN r4.1 A14 c14 A15 c15)):: .ro (SlL eu8 A14 c14 r4.1.Slots.e0.Image.Data):: .ro (SlL eu8 A15 c15 r4.1.Slots.e1.Image.Data):: .ro (SlL zR A2 c2 a_p0.needs):: .ro (SlL yU A3 c3 a_p0.load.Have):: .ro (SlL eu8 A4 c4 a_p0.load.Data):: .ro (SlL yH A5 c5 a_p0.order):: .res (Box gb1 144 [.pointer (zBZ a_p0.store gb2), .slice (some ⟨g1,0,none⟩) l1.length c1, .slice A2 a_p0.needs.length c2, .int .i64 a_p0.phase, .int .i64 a_p0.load.Size, .int .i64 a_p0.load.Part, .slice A3 a_p0.load.Have.length c3, .slice A4 a_p0.load.Data.length c4, .int .u8 a_p0.before, .slice A5 a_p0.order.length c5]):: .res (Box gb2 135 (zO a_p0_store gb3 M1)):: .res (yO (yF .u8) (cod eu8) M1 a_p0_store.all):: .res (Box gb3 131 (zG a_p0_store_d A6 c6 A7 c7)):: .res (zM eu8 5 A6 c6 a_p0_store_d.bytes):: .res (zM yH 3 A7 c7 a_p0_store_d.wear)::R) (fun _ w=>by rw [oL hl1]; exact w)<|.xk (zl [1,1,1,1,1,1,1] 2 rfl)<|.xdone<|.thenN<|.pf [0,6] [0] 3 rfl rfl<|.seq<|.a 1 rfl<|.bd h fun r5 hr5 h=>.call (pZ (gb1:=gb1) (gb2:=gb2) (gb3:=gb3) hr5) zRL rfl rfl rfl (zd [7,8,9,10] [5,0,4,4,4,4,4] 0 rfl) ?_;rintro _ _ ⟨A16,c16,A17,c17,A18,c18,A19,c19,A20,c20,M2,A21,c21,A22,c22,rfl,rfl⟩;refine .nm 15 rfl<|.bf [6,10] [0,0,0,0,0,0,0,0,0,0,0] 4 rfl rfl<|.ab [6,10,58] rfl<|.cb h rfl (fun h=>?_) (fun h=>?_)
 ·refine .ab [4,5] rfl ?_;cases h;exact .rv rfl rfl ⟨A16,c16,A17,c17,A18,c18,A19,c19,A20,c20,M2,A21,c21,A22,c22,rfl,rfl⟩ (zk 11 4 [7,8,9,10] [4,4,4,4,4,4,4] 0 rfl)
 refine .sk<|.pr [6] rfl<|.ab [4,5] rfl ?_;cases h;exact .rv rfl rfl ⟨A16,c16,A17,c17,A18,c18,A19,c19,A20,c20,M2,A21,c21,A22,c22,rfl,rfl⟩ (zk 11 4 [7,8,9,10] [4,4,4,4,4,4,4] 0 rfl)
theorem zRI:Ent Tryz.prog 25:=en Tryz.func25 (by kernel_rfl)
noncomputable def yW (a_p0:zD) (good:Bool) (a_p0_store:zC) (a_p0_store_d:zA):Option (zD × zC × zA × Int × Int):=
 bif !(a_p0.phase==2||(a_p0.phase==3||false)) then (some (a_p0,a_p0_store,a_p0_store_d,0,46)) else (bif a_p0.phase==2 then (bnd (wF a_p0 good a_p0_store a_p0_store_d) fun r1=>some (r1.1,r1.2.1,r1.2.2.1,r1.2.2.2.1,r1.2.2.2.2)) else (bif a_p0.phase==3 then (bnd (tQ a_p0 good a_p0_store a_p0_store_d) fun r2=>some (r2.1,r2.2.1,r2.2.2.1,r2.2.2.2.1,r2.2.2.2.2)) else (none)))
theorem nW {a_p0 good a_p0_store a_p0_store_d A1 c1 A2 c2 A3 c3 A4 c4 A5 c5 A6 c6 A7 c7 M1 gb1 gb2 gb3 r} (h:yW a_p0 good a_p0_store a_p0_store_d=some r):
    Fun Tryz.prog 25 [.pointer (some ⟨gb1,0,none⟩), .bool good] [.ro (SlL zR A2 c2 a_p0.needs), .ro (SlL yU A3 c3 a_p0.load.Have), .ro (SlL eu8 A4 c4 a_p0.load.Data), .ro (SlL yH A5 c5 a_p0.order), .ro (zGA 0 [(2,some 315),(3,some 316)]), .res (Box gb1 144 (zI a_p0 gb2 A1 c1 A2 c2 A3 c3 A4 c4 A5 c5)), .res (xK (yL zE) 64 A1 c1 a_p0.devices), .res (Box gb2 135 (zO a_p0_store gb3 M1)), .res (yO (yF .u8) (cod eu8) M1 a_p0_store.all), .res (Box gb3 131 (zG a_p0_store_d A6 c6 A7 c7)), .res (zM eu8 5 A6 c6 a_p0_store_d.bytes), .res (zM yH 3 A7 c7 a_p0_store_d.wear)] (fun v F=>∃ A8 c8 A9 c9 A10 c10 A11 c11 A12 c12 M2 A13 c13 A14 c14,v= .tuple #[.int .i64 r.2.2.2.1, .int .i64 r.2.2.2.2]∧F= [.ro (SlL zR A9 c9 r.1.needs), .ro (SlL yU A10 c10 r.1.load.Have), .ro (SlL eu8 A11 c11 r.1.load.Data), .ro (SlL yH A12 c12 r.1.order), .res (Box gb1 144 (zI r.1 gb2 A8 c8 A9 c9 A10 c10 A11 c11 A12 c12)), .res (xK (yL zE) 64 A8 c8 r.1.devices), .res (Box gb2 135 (zO r.2.1 gb3 M2)), .res (yO (yF .u8) (cod eu8) M2 r.2.1.all), .res (Box gb3 131 (zG r.2.2.1 A13 c13 A14 c14)), .res (zM eu8 5 A13 c13 r.2.2.1.bytes), .res (zM yH 3 A14 c14 r.2.2.1.wear)]):=by
 refine Fun.intro Tryz.func25 rfl rfl rfl fun w R=>?_;refine .ab [0,1] rfl<|.seq<|.regionF mixed (by kernel_rfl)<|.openF (zm 4 rfl) fun gm1=>.ld 0 0 0 rfl<|.n 3 rfl<|.lb 3 7 rfl<|.lookupF rfl rfl rfl (.tail _ (.head _)) rfl rfl rfl rfl rfl (by rfl)<|.beq rfl<|.pf [0,1,6] [] 2 rfl rfl<|.seq<|.a 1 rfl<|.nilF (r:=!(a_p0.phase==2||(a_p0.phase==3||false))) rfl rfl rfl (by kernel_rfl) rfl (.inl ⟨rfl,rfl⟩)<|.b [0,1,6,14] rfl<|.cb h rfl (fun h=>?_) (fun h=>?_)
 ·refine .ab [4,5] rfl ?_;cases h;exact .rv rfl rfl ⟨A1,c1,A2,c2,A3,c3,A4,c4,A5,c5,M1,A6,c6,A7,c7,rfl,rfl⟩ (zk 11 5 [7,8,9,10] [5,5,5,5,5,5,5] 0 rfl)
 refine .sk<|.pr [0,1,6] rfl<|.a 3 rfl ?_
 rcases hb2:(a_p0.phase==2) with _ | _
 ·replace h:=dG hb2 h
  rcases hb3:(a_p0.phase==3) with _ | _
  ·replace h:=dG hb3 h;cases h
  replace h:=dR hb3 h;refine .ss 6 (zOd (zKD hb2 hb3)) ?_;refine .ss 15 (zOd (zKD hb2 hb3))<|.bd h fun r2 hr2 h=>.call (dP (gb1:=gb1) (gb2:=gb2) (gb3:=gb3) hr2) zWh rfl rfl rfl (zd [7,8,9,10] [5,5,5,5,5,5,5] 0 rfl) ?_;rintro _ _ ⟨A15,c15,A16,c16,A17,c17,A18,c18,A19,c19,M3,A20,c20,A21,c21,rfl,rfl⟩;refine .nm 16 rfl<|.bf [4,5] [0,0,0,0,0,0,0,0,0,0,0] 4 rfl rfl ?_;cases h;exact .rv rfl rfl ⟨A15,c15,A16,c16,A17,c17,A18,c18,A19,c19,M3,A20,c20,A21,c21,rfl,rfl⟩ (zk 11 5 [7,8,9,10] [4,4,4,4,4,4,4] 0 rfl)
 replace h:=dR hb2 h;refine .ss 6 (zOd (zEA hb2)) ?_;refine .ss 15 (zOd (zEA hb2))<|.bd h fun r1 hr1 h=>.call (cB (gb1:=gb1) (gb2:=gb2) (gb3:=gb3) hr1) zVw rfl rfl rfl (zd [7,8,9,10] [5,5,5,5,5,5,5] 0 rfl) ?_;rintro _ _ ⟨A8,c8,A9,c9,A10,c10,A11,c11,A12,c12,M2,A13,c13,A14,c14,rfl,rfl⟩;refine .nm 16 rfl<|.bf [4,5] [0,0,0,0,0,0,0,0,0,0,0] 4 rfl rfl ?_;cases h;exact .rv rfl rfl ⟨A8,c8,A9,c9,A10,c10,A11,c11,A12,c12,M2,A13,c13,A14,c14,rfl,rfl⟩ (zk 11 5 [7,8,9,10] [4,4,4,4,4,4,4] 0 rfl)
theorem zXi:Ent Tryz.prog 22:=en Tryz.func22 (by kernel_rfl)
noncomputable def oX (a_p0:zD):Option Int:=
 some a_p0.phase
theorem zAu {a_p0 A1 c1 A2 c2 A3 c3 A4 c4 A5 c5 gb1 gb2 r} (h:oX a_p0=some r):
    Fun Tryz.prog 22 [.pointer (some ⟨gb1,0,none⟩)] [.ro (SlL zR A2 c2 a_p0.needs), .ro (SlL yU A3 c3 a_p0.load.Have), .ro (SlL eu8 A4 c4 a_p0.load.Data), .ro (SlL yH A5 c5 a_p0.order), .res (Box gb1 144 (zI a_p0 gb2 A1 c1 A2 c2 A3 c3 A4 c4 A5 c5)), .res (xK (yL zE) 64 A1 c1 a_p0.devices)] (fun v F=>v= .int .i64 r∧F= [.res (Box gb1 144 (zI a_p0 gb2 A1 c1 A2 c2 A3 c3 A4 c4 A5 c5)), .res (xK (yL zE) 64 A1 c1 a_p0.devices)]):=by
 unfold oX at h
 refine Fun.intro Tryz.func22 rfl rfl rfl fun w R=>?_;refine .ab [0] rfl<|.a 3 rfl<|.lb 3 4 rfl<|.b [2] rfl ?_;cases h;exact .rv rfl rfl ⟨rfl,rfl⟩ (zl [] 4 rfl)
theorem zXN:Ent Tryz.prog 10:=en Tryz.func10 (by kernel_rfl)
noncomputable def jL:Option Bool:=
 bnd (lF 2 1024) fun r1=>zEp r1.1 (none) (fun q1=>bnd (xI q1 0) fun r2=>zEp r2.2.1 (bnd ((bif (r1.2 != 0) then (some true) else (some (r2.2.2 != 0)):Option Bool)) fun o1=>bif o1 then (some false) else (bnd (mY (⟨⟨#[98,105,111,115]⟩,(⟨1,0,0⟩:zK), [1]⟩:zH)) fun r3=>bnd (mY (⟨⟨#[109,101]⟩,(⟨1,0,0⟩:zK), [1]⟩:zH)) fun r4=>none)) (fun q2=>bnd ((bif (r1.2 != 0) then (some true) else (some (r2.2.2 != 0)):Option Bool)) fun o2=>bif o2 then (some false) else (bnd (mY (⟨⟨#[98,105,111,115]⟩,(⟨1,0,0⟩:zK), [1]⟩:zH)) fun r5=>bnd (mY (⟨⟨#[109,101]⟩,(⟨1,0,0⟩:zK), [1]⟩:zH)) fun r6=>bnd (wS q2 ([r5.1,r6.1]) ([(⟨⟨#[98,105,111,115]⟩,(⟨2,0,0⟩:zK),⟨#[109,101]⟩,(⟨2,0,0⟩:zK)⟩:zT)]) r2.1) fun r7=>zEp r7.2.2.1 (bnd (tU (⟨[(⟨⟨#[98,105,111,115]⟩,(⟨2,0,0⟩:zK), [2]⟩:zH),(⟨⟨#[109,101]⟩,(⟨2,0,0⟩:zK), [2]⟩:zH)], []⟩:zX)) fun r8=>bnd ((bif (r7.2.2.2 != 0) then (some ()) else (bif (r8.2 != 0) then (some ()) else (some ())):Option Unit)) fun o3=>some false) (fun q3=>bnd (tU (⟨[(⟨⟨#[98,105,111,115]⟩,(⟨2,0,0⟩:zK), [2]⟩:zH),(⟨⟨#[109,101]⟩,(⟨2,0,0⟩:zK), [2]⟩:zH)], []⟩:zX)) fun r9=>bnd ((bif (r7.2.2.2 != 0) then (some true) else (bif (r9.2 != 0) then (some true) else (bif decide ((r9.1.length:Int)<1) then (some true) else (some (decide ((r9.1.length:Int)>128))))):Option Bool)) fun o4=>bif o4 then (some false) else (bnd (xG q3 (r9.1.length:Int) 64) fun r10=>bnd (sub r9.1 0 (min (r9.1.length:Int) 64)) fun l1=>bnd (vC r10.1 0 l1) fun r11=>bnd ((bif decide ((r9.1.length:Int)>64) then (bnd (sub r9.1 64 (r9.1.length:Int)) fun l2=>bnd (vC r11.1 1 l2) fun r12=>some (r12.2,r12.1)) else (some (0,r11.1)):Option (Int × zD))) fun o5=>bnd (yZ o5.2 r7.1 r7.2.1) fun r13=>bnd (yW r13.1 true r13.2.1 r13.2.2.1) fun r14=>bnd (yW r14.1 true r14.2.1 r14.2.2.1) fun r15=>bnd ((bif (r10.2==0) then (bif (r11.2==0) then (bif (o5.1==0) then (bif (r13.2.2.2==0) then (bif (r14.2.2.2.2==0) then (bif (r15.2.2.2.2==0) then (bif (r14.2.2.2.1==1) then (bif (r15.2.2.2.1==0) then (bnd (oX r15.1) fun r16=>some (r16==0)) else (some false)) else (some false)) else (some false)) else (some false)) else (some false)) else (some false)) else (some false)) else (some false):Option Bool)) fun o6=>some o6)))))
theorem zHc {r:Bool} (h:jL=some r):
    Fun Tryz.prog 10 [] [.ro (zGA 0 [(2,some 315),(3,some 316)])] (Val (.bool r)):=by
 refine Fun.intro Tryz.func10 rfl rfl rfl fun w R=>?_;refine .ab [] rfl<|.seq<|.region<|.bd h fun r1 hr1 h=>.call (zEi hr1) zVg rfl rfl rfl (fun _ w=>w) ?_
 intro v_ F_ hp_
 rcases hq1:r1.1 with _ | q1
 ·replace hp_:=aK hq1 hp_;replace h:=zAj hq1 h;obtain ⟨rfl,rfl⟩:=hp_;refine .nm 1 rfl<|.b [1,2] rfl<|.a 1 rfl ?_;cases h
 replace hp_:=zAd hq1 hp_;replace h:=aG hq1 h;obtain ⟨g1,A1,c1,A2,c2,rfl,rfl⟩:=hp_;refine .nm 4 rfl<|.b [1,2] rfl<|.a 1 rfl<|.bd h fun r2 hr2 h=>.call (iP hr2) zSn rfl rfl rfl (fun _ w=>w) ?_
 intro v_ F_ hp_
 rcases hq2:r2.2.1 with _ | q2
 ·replace hp_:=aK hq2 hp_;replace h:=zAj hq2 h;obtain ⟨A3,c3,A4,c4,rfl,rfl⟩:=hp_;refine .nm 4 rfl<|.bf [2,3,4] [] 3 rfl rfl<|.seq<|.seq<|.bd h fun o1 hj1 h=>.cu 0 [3, .s 37 (.bool o1)] [] rfl rfl ?_ ?_
  ·refine .region<|.n 3 rfl<|.gs 34 hj1 rfl (fun hj1=>?_) (fun hj1=>?_)
   ·cases hj1;exact .be rfl<|.hU rfl zw
   cases hj1;exact .be rfl<|.hU rfl zw
  refine .cb h rfl (fun h=>?_) (fun h=>?_)
  ·refine .ab [0] rfl ?_;cases h;exact .rv rfl rfl ⟨rfl,rfl⟩ (zl [] 1 rfl)
  refine .sk<|.pr [3] rfl<|.a 2 rfl<|.alloc rfl rfl fun g3=>.alloc rfl rfl fun g4=>.sb 0 1 rfl<|.sb 0 1 rfl<|.b [3,5,6] rfl<|.seq<|.region<|.lb 0 1 rfl<|.bS rfl fun g5=>.p rfl rfl<|.asrt (fun _ w=>w.litL (E:=eu8) (e:=5) [1] rfl rfl)<|.asrt (fun _ w=>w.meltL)<|.bd h fun r3 hr3 h=>.ct 6 [0] [] 0 (cJ hr3) zOj rfl fun A7 c7 A8 c8=>.n 3 rfl<|.alloc rfl rfl fun g6=>.sb 0 0 rfl<|.bf [3,5,6,7] [0,0,0] 1 rfl rfl<|.seq<|.region<|.lb 0 4 rfl<|.bS rfl fun g7=>.p rfl rfl<|.asrt (fun _ w=>w.litL (E:=eu8) (e:=5) [1] rfl rfl)<|.asrt (fun _ w=>w.meltL)<|.bd h fun r4 hr4 h=>.ct 9 [0] [] 0 (cJ hr4) zOj rfl fun A9 c9 A10 c10=>.n 3 rfl<|.alloc rfl rfl fun g8=>.sb 0 0 rfl<|.bf [3,6,7,9] [0,0,0,1,1,1,1] 2 rfl rfl<|.a 1 rfl<|.lb 0 3 rfl<|.lb 0 0 rfl<|.bS rfl fun g9=>.lb 0 7 rfl<|.lb 0 7 rfl<|.p rfl rfl<|.bS rfl fun g10=>?_;cases h
 replace hp_:=zAd hq2 hp_;replace h:=aG hq2 h;obtain ⟨g2,A5,c5,A6,c6,M1,rfl,rfl⟩:=hp_;refine .nm 6 rfl<|.b [2,3,4] rfl<|.seq<|.seq<|.bd h fun o2 hj2 h=>.cu 0 [3, .s 37 (.bool o2)] [] rfl rfl ?_ ?_
 ·refine .region<|.n 3 rfl<|.gs 34 hj2 rfl (fun hj2=>?_) (fun hj2=>?_)
  ·cases hj2;exact .be rfl<|.hU rfl zw
  cases hj2;exact .be rfl<|.hU rfl zw
 refine .cb h rfl (fun h=>?_) (fun h=>?_)
 ·refine .abf [0] [] 5 rfl rfl ?_;cases h;exact .rv rfl rfl ⟨rfl,rfl⟩ (zl [] 1 rfl)
 refine .sk<|.pr [3] rfl<|.a 2 rfl<|.alloc rfl rfl fun g11=>.alloc rfl rfl fun g12=>.sb 0 1 rfl<|.sb 0 1 rfl<|.b [3,5,6] rfl<|.seq<|.region<|.lb 0 1 rfl<|.bS rfl fun g13=>.p rfl rfl<|.asrt (fun _ w=>w.litL (E:=eu8) (e:=5) [1] rfl rfl)<|.asrt (fun _ w=>w.meltL)<|.bd h fun r5 hr5 h=>.ct 11 [0] [] 0 (cJ hr5) zOj rfl fun A11 c11 A12 c12=>.n 3 rfl<|.alloc rfl rfl fun g14=>.sb 0 0 rfl<|.bf [3,5,6,7] [0,0,0] 1 rfl rfl<|.seq<|.region<|.lb 0 4 rfl<|.bS rfl fun g15=>.p rfl rfl<|.asrt (fun _ w=>w.litL (E:=eu8) (e:=5) [1] rfl rfl)<|.asrt (fun _ w=>w.meltL)<|.bd h fun r6 hr6 h=>.ct 14 [0] [] 0 (cJ hr6) zOj rfl fun A13 c13 A14 c14=>.n 3 rfl<|.alloc rfl rfl fun g16=>.sb 0 0 rfl<|.bf [3,6,7,9] [0,0,0,1,1,1,1] 2 rfl rfl<|.a 1 rfl<|.lb 0 3 rfl<|.lb 0 0 rfl<|.bS rfl fun g17=>.lb 0 7 rfl<|.lb 0 7 rfl<|.p rfl rfl<|.bS rfl fun g18=>.asrt (fun _ w=>Sat.litC (ls:=zE) (e:=64) [(r5.1,((A11,c11),((A12,c12),()))),(r6.1,((A13,c13),((A14,c14),())))] rfl rfl rfl ⟨(zm 5 rfl),(zm 6 rfl),(zm 2 rfl),(zm 3 rfl),trivial⟩ (w.sl [1] 0 rfl))<|.asrt (fun _ w=>w.meltC)<|.asrt (fun _ w=>(w.sl [1] 0 rfl).litL (E:=zR) (e:=123) [(⟨⟨#[98,105,111,115]⟩,(⟨2,0,0⟩:zK),⟨#[109,101]⟩,(⟨2,0,0⟩:zK)⟩:zT)] rfl rfl)<|.asrt (fun _ w=>w.meltL)<|.bd h fun r7 hr7 h=>.call (eX (gb1:=g2) (gb2:=g1) hr7) zST rfl rfl rfl (zd [6,5,14] [12,12,9,9,9] 0 rfl) ?_
 intro v_ F_ hp_
 rcases hq3:r7.2.2.1 with _ | q3
 ·replace hp_:=aK hq3 hp_;replace h:=zAj hq3 h;obtain ⟨M2,A15,c15,A16,c16,rfl,rfl⟩:=hp_;refine .nm 15 rfl<|.bf [6,11,12] [] 13 rfl rfl<|.seq<|.region<|.lb 0 0 rfl<|.bS rfl fun g20=>.p rfl rfl<|.lb 0 1 rfl<|.bS rfl fun g21=>.p rfl rfl<|.bS rfl fun g22=>.p rfl rfl<|.asrt (fun _ w=>(w.sl [2] 0 rfl).litL (E:=eu8) (e:=5) [2] rfl rfl)<|.asrt (fun _ w=>w.meltL)<|.asrt (fun _ w=>(w.sl [2] 0 rfl).litL (E:=eu8) (e:=5) [2] rfl rfl)<|.asrt (fun _ w=>w.meltL)<|.asrt (fun _ w=>Sat.litC (ls:=xC) (e:=58) [((⟨⟨#[98,105,111,115]⟩,(⟨2,0,0⟩:zK), [2]⟩:zH),(((some ⟨g20,0,none⟩),([2]:List Int).length),())),((⟨⟨#[109,101]⟩,(⟨2,0,0⟩:zK), [2]⟩:zH),(((some ⟨g21,0,none⟩),([2]:List Int).length),()))] rfl rfl rfl ⟨(.tail _ (.head _)),(.head _),trivial⟩ (w.sl [2] 0 rfl))<|.asrt (fun _ w=>w.meltC)<|.asrt (fun _ w=>w.nilSl (cod zR))<|.bd h fun r8 hr8 h=>.cr 7 [1,0] [] 0 (bN hr8) zVd rfl fun A24 c24=>.bf [11,12,13,14] [0] 5 rfl rfl<|.seq<|.seq<|.bd h fun o3 hj3 h=>.cu 0 [11,13, .s 97 (.bool true)] [] rfl rfl ?_ ?_
  ·refine .region<|.n 3 rfl<|.gs 80 hj3 rfl (fun hj3=>?_) (fun hj3=>?_)
   ·cases hj3;exact .be rfl<|.hU rfl zw
   refine .n 4 rfl<|.gs 84 hj3 rfl (fun hj3=>?_) (fun hj3=>?_)
   ·cases hj3;exact .be rfl<|.hU rfl zw
   cases hj3;exact .be rfl<|.hU rfl zw
  refine .condT rfl<|.abf [0] [] 1 rfl rfl ?_;cases h;exact .rv rfl rfl ⟨rfl,rfl⟩ (zl [] 1 rfl)
 replace hp_:=zAd hq3 hp_;replace h:=aG hq3 h;obtain ⟨g19,M3,A17,c17,A18,c18,A19,c19,A20,c20,A21,c21,A22,c22,A23,c23,rfl,rfl⟩:=hp_;refine .nm 21 rfl<|.bf [6,11,12] [0,0,0,0,0,0,0,0,0,0,0] 8 rfl rfl<|.seq<|.region<|.lb 0 11 rfl<|.bS rfl fun g23=>.p rfl rfl<|.lb 0 12 rfl<|.bS rfl fun g24=>.p rfl rfl<|.bS rfl fun g25=>.p rfl rfl<|.asrt (fun _ w=>(w.sl [2] 0 rfl).litL (E:=eu8) (e:=5) [2] rfl rfl)<|.asrt (fun _ w=>w.meltL)<|.asrt (fun _ w=>(w.sl [2] 0 rfl).litL (E:=eu8) (e:=5) [2] rfl rfl)<|.asrt (fun _ w=>w.meltL)<|.asrt (fun _ w=>Sat.litC (ls:=xC) (e:=58) [((⟨⟨#[98,105,111,115]⟩,(⟨2,0,0⟩:zK), [2]⟩:zH),(((some ⟨g23,0,none⟩),([2]:List Int).length),())),((⟨⟨#[109,101]⟩,(⟨2,0,0⟩:zK), [2]⟩:zH),(((some ⟨g24,0,none⟩),([2]:List Int).length),()))] rfl rfl rfl ⟨(.tail _ (.head _)),(.head _),trivial⟩ (w.sl [2] 0 rfl))<|.asrt (fun _ w=>w.meltC)<|.asrt (fun _ w=>w.nilSl (cod zR))<|.bd h fun r9 hr9 h=>.cr 18 [1,0] [] 0 (bN hr9) zVd rfl fun A25 c25=>.bf [11,12,13,14] [0,4,4,4,4,4,4,4,4,4,4,4] 5 rfl rfl<|.seq<|.seq<|.bd h fun o4 hj4 h=>.cu 0 [11,13, .s 97 (.bool o4)] [] rfl rfl ?_ ?_
 ·refine .region<|.n 3 rfl<|.gs 80 hj4 rfl (fun hj4=>?_) (fun hj4=>?_)
  ·cases hj4;exact .be rfl<|.hU rfl zw
  refine .n 4 rfl<|.gs 84 hj4 rfl (fun hj4=>?_) (fun hj4=>?_)
  ·cases hj4;exact .be rfl<|.hU rfl zw
  refine .n 9 rfl<|.gs 93 hj4 rfl (fun hj4=>?_) (fun hj4=>?_)
  ·cases hj4;exact .be rfl<|.hU rfl zw
  cases hj4;exact .be rfl<|.hU rfl zw
 refine .cb h rfl (fun h=>?_) (fun h=>?_)
 ·refine .abf [0] [] 12 rfl rfl ?_;cases h;exact .rv rfl rfl ⟨rfl,rfl⟩ (zl [] 1 rfl)
 refine .sk<|.pr [11,13] rfl<|.a 3 rfl<|.bd h fun r10 hr10 h=>.call (iC (gb1:=g19) hr10) zVe rfl rfl rfl (zd [3,4,5,6,12] [10,10] 0 rfl) ?_;rintro _ _ ⟨A26,c26,A27,c27,A28,c28,A29,c29,A30,c30,rfl,rfl⟩;refine .nm 17 rfl<|.bf [11,13,15] [0,0,0,0,0,0,0] 4 rfl rfl<|.a 5 rfl<|.asrt (fun _ w=>(w.sl [6] 0 rfl).meltL)<|.bd h fun l1 hl1 h=>.sub (E:=(cod eu8)) rfl rfl (.head _) rfl rfl rfl rfl rfl rfl rfl hl1 fun A31 c31=>.bd h fun r11 hr11 h=>.call (nX (gb1:=g19) hr11) zSJ rfl rfl rfl (zd [4,5,6,7,2] [6,6] 0 rfl) ?_;rintro _ _ ⟨A32,c32,A33,c33,A34,c34,A35,c35,A36,c36,rfl,rfl⟩;refine .nm 18 rfl<|.bf [11,13,15,16] [0,0,0,0,0,0,1] 5 rfl rfl<|.ae rfl<|.seq<|.bd h fun o5 hj5 h=>.cutK 7 (fun (e5:Option Addr × Nat × Option Addr × Nat × Option Addr × Nat × Option Addr × Nat × Option Addr × Nat)=>[11,15,16, .s 17 (.int .i64 o5.1)]) (fun e5=>[.ro (SlL yH e5.2.2.2.2.2.2.2.2.1 e5.2.2.2.2.2.2.2.2.2 o5.2.order), .ro (SlL eu8 e5.2.2.2.2.2.2.1 e5.2.2.2.2.2.2.2.1 o5.2.load.Data), .ro (SlL yU e5.2.2.2.2.1 e5.2.2.2.2.2.1 o5.2.load.Have), .ro (SlL zR e5.2.2.1 e5.2.2.2.1 o5.2.needs), .res (xK (yL zE) 64 e5.1 e5.2.1 o5.2.devices), .res (Box g19 144 (zI o5.2 g2 e5.1 e5.2.1 e5.2.2.1 e5.2.2.2.1 e5.2.2.2.2.1 e5.2.2.2.2.2.1 e5.2.2.2.2.2.2.1 e5.2.2.2.2.2.2.2.1 e5.2.2.2.2.2.2.2.2.1 e5.2.2.2.2.2.2.2.2.2))]) rfl rfl ?_ ?_
 ·refine .ab [11,13,15,16,17,111] rfl<|.cb hj5 rfl (fun hj5=>?_) (fun hj5=>?_)
  ·refine .region<|.n 2 rfl<|.bd hj5 fun l2 hl2 hj5=>.sub (E:=(cod eu8)) rfl rfl (zm 6 rfl) rfl rfl rfl rfl rfl rfl rfl hl2 fun A42 c42=>.bd hj5 fun r12 hr12 hj5=>.call (nX (gb1:=g19) hr12) zSJ rfl rfl rfl (zd [3,4,5,6,2] [5,5] 0 rfl) ?_;rintro _ _ ⟨A43,c43,A44,c44,A45,c45,A46,c46,A47,c47,rfl,rfl⟩;refine .nm 18 rfl ?_;cases hj5;exact .be rfl<|.hE (A43,c43,A44,c44,A45,c45,A46,c46,A47,c47) rfl (zl [3,2,1,0,1,0] 6 rfl)
  cases hj5;exact .sk<|.hE (A32,c32,A33,c33,A34,c34,A35,c35,A36,c36) rfl (zl [3,2,1,0,1,0] 1 rfl)
 rintro ⟨A37,c37,A38,c38,A39,c39,A40,c40,A41,c41⟩;refine .a 1 rfl<|.bd h fun r13 hr13 h=>.call (kT (gb1:=g19) (gb2:=g2) (gb3:=g1) hr13) zUZ rfl rfl rfl (zd [10,9,8,7] [5,4,4,4,4,4,4] 0 rfl) ?_;rintro _ _ ⟨A48,c48,A49,c49,A50,c50,A51,c51,A52,c52,M4,A53,c53,A54,c54,rfl,rfl⟩;refine .nm 16 rfl<|.bf [11,15,16,17,18] [0,0,0,0,0,0,0,0,0,0,0] 4 rfl rfl<|.a 1 rfl<|.bd h fun r14 hr14 h=>.call (nW (gb1:=g19) (gb2:=g2) (gb3:=g1) hr14) zRI rfl rfl rfl (zd [7,8,9,10,11] [4,4,4,4,4,4,4] 0 rfl) ?_;rintro _ _ ⟨A55,c55,A56,c56,A57,c57,A58,c58,A59,c59,M5,A60,c60,A61,c61,rfl,rfl⟩;refine .nm 16 rfl<|.bf [11,15,16,17,18,19,20] [0,0,0,0,0,0,0,0,0,0,0] 4 rfl rfl<|.a 1 rfl<|.bd h fun r15 hr15 h=>.call (nW (gb1:=g19) (gb2:=g2) (gb3:=g1) hr15) zRI rfl rfl rfl (zd [7,8,9,10,11] [4,4,4,4,4,4,4] 0 rfl) ?_;rintro _ _ ⟨A62,c62,A63,c63,A64,c64,A65,c65,A66,c66,M6,A67,c67,A68,c68,rfl,rfl⟩;refine .nm 16 rfl<|.bf [11,15,16,17,18,19,20,21,22] [0,0,0,0,0,0,0,0,0,0,0] 4 rfl rfl<|.seq<|.bd h fun o6 hj6 h=>.cu 11 [.s 0 (.bool o6)] [] rfl rfl ?_ ?_
 ·refine .region<|.n 3 rfl<|.gs 130 hj6 rfl (fun hj6=>?_) (fun hj6=>?_)
  ·refine .n 4 rfl<|.gs 134 hj6 rfl (fun hj6=>?_) (fun hj6=>?_)
   ·refine .n 4 rfl<|.gs 138 hj6 rfl (fun hj6=>?_) (fun hj6=>?_)
    ·refine .n 4 rfl<|.gs 142 hj6 rfl (fun hj6=>?_) (fun hj6=>?_)
     ·refine .n 4 rfl<|.gs 146 hj6 rfl (fun hj6=>?_) (fun hj6=>?_)
      ·refine .n 4 rfl<|.gs 150 hj6 rfl (fun hj6=>?_) (fun hj6=>?_)
       ·refine .n 4 rfl<|.gs 154 hj6 rfl (fun hj6=>?_) (fun hj6=>?_)
        ·refine .n 4 rfl<|.gs 158 hj6 rfl (fun hj6=>?_) (fun hj6=>?_)
         ·refine .n 1 rfl<|.gOn rfl rfl<|.bd hj6 fun r16 hr16 hj6=>.cq 12 [2,3,4,5] [4,4] 0 (zAu (gb1:=g19) hr16) zXi rfl ?_;cases hj6;exact .be rfl<|.hU rfl (zl [] 11 rfl)
         cases hj6;exact .be rfl<|.hU rfl (zl [] 11 rfl)
        cases hj6;exact .be rfl<|.hU rfl (zl [] 11 rfl)
       cases hj6;exact .be rfl<|.hU rfl (zl [] 11 rfl)
      cases hj6;exact .be rfl<|.hU rfl (zl [] 11 rfl)
     cases hj6;exact .be rfl<|.hU rfl (zl [] 11 rfl)
    cases hj6;exact .be rfl<|.hU rfl (zl [] 11 rfl)
   cases hj6;exact .be rfl<|.hU rfl (zl [] 11 rfl)
  cases hj6;exact .be rfl<|.hU rfl (zl [] 11 rfl)
 cases h;exact .rv rfl rfl ⟨rfl,rfl⟩ (zl [] 1 rfl)
theorem zXa:Ent Tryz.prog 11:=en Tryz.func11 (by kernel_rfl)
noncomputable def fU (l_p0:(List Int)) (most:Int):Option xY:=
 bnd (sub l_p0 0 (min (l_p0.length:Int) most)) fun l1=>some (⟨l1,0⟩:xY)
theorem zKo {l_p0 most A1 c1 r} (h:fU l_p0 most=some r):
    Fun Tryz.prog 11 [.slice A1 l_p0.length c1, .int .i64 most] [.ro (SlL eu8 A1 c1 l_p0)] (fun v F=>∃ g1 A2 c2,v= .pointer (some ⟨g1,0,none⟩)∧F= [.ro (SlL eu8 A2 c2 r.L), .res (Box g1 127 [.slice A2 r.L.length c2, .int .i64 r.At])]):=by
 refine Fun.intro Tryz.func11 rfl rfl rfl fun w R=>?_;refine .ab [0,1] rfl<|.a 5 rfl<|.bd h fun l1 hl1 h=>.sub (E:=(cod eu8)) rfl rfl (.head _) rfl rfl rfl rfl rfl rfl rfl hl1 fun A2 c2=>.p rfl rfl<|.box rfl rfl fun g1=>.bf [4] [0,0] 1 rfl rfl ?_;cases h;exact .rv rfl rfl ⟨g1,A2,c2,rfl,rfl⟩ (zk 2 1 [1] [] 0 rfl)
theorem zXb:Ent Tryz.prog 55:=en Tryz.func55 (by kernel_rfl)
noncomputable def jJ:Option (List ByteArray):=
 some ([⟨#[98,105,111,115]⟩,⟨#[99,112,108,100]⟩,⟨#[109,101]⟩,⟨#[112,115,117]⟩,⟨#[120,45,49]⟩,⟨#[122,122]⟩])
theorem zGW {r:(List ByteArray)} (h:jJ=some r):
    Fun Tryz.prog 55 [] [] (fun v F=>∃ A1 c1,v= .slice A1 r.length c1∧F= [.res (zM zWa 9 A1 c1 r)]):=by
 unfold jJ at h
 refine Fun.intro Tryz.func55 rfl rfl rfl fun w R=>?_;refine .ab [] rfl<|.seq<|.region<|.bS rfl fun g1=>.b [0] rfl<|.asrt (fun _ w=>w.litL (E:=zWa) (e:=9) [⟨#[98,105,111,115]⟩,⟨#[99,112,108,100]⟩,⟨#[109,101]⟩,⟨#[112,115,117]⟩,⟨#[120,45,49]⟩,⟨#[122,122]⟩] rfl rfl) ?_;cases h;exact .rv rfl rfl ⟨(some ⟨g1,0,none⟩),([⟨#[98,105,111,115]⟩,⟨#[99,112,108,100]⟩,⟨#[109,101]⟩,⟨#[112,115,117]⟩,⟨#[120,45,49]⟩,⟨#[122,122]⟩]:List ByteArray).length,rfl,rfl⟩ zw
theorem zRA:Ent Tryz.prog 30:=en Tryz.func30 (by kernel_rfl)
noncomputable def vP (c_p0:xY):Option Bool:=
 some (decide (c_p0.At<(c_p0.L.length:Int)))
theorem mO {c_p0 A1 c1 gb1 r} (h:vP c_p0=some r):
    Fun Tryz.prog 30 [.pointer (some ⟨gb1,0,none⟩)] [.ro (SlL eu8 A1 c1 c_p0.L), .res (Box gb1 127 [.slice A1 c_p0.L.length c1, .int .i64 c_p0.At])] (fun v F=>v= .bool r∧F= [.res (Box gb1 127 [.slice A1 c_p0.L.length c1, .int .i64 c_p0.At])]):=by
 unfold vP at h
 refine Fun.intro Tryz.func30 rfl rfl rfl fun w R=>?_;refine .ab [0] rfl<|.seq<|.regionF mixed (by kernel_rfl)<|.n 3 rfl<|.lb 1 1 rfl<|.n 3 rfl<|.lb 0 1 rfl<|.bq [2] rfl ?_;cases h;exact .rv rfl rfl ⟨rfl,rfl⟩ (zl [] 1 rfl)
theorem oZ:Ent Tryz.prog 31:=en Tryz.func31 (by kernel_rfl)
noncomputable def zY (c_p0:xY) (n_p1:Int):Option (xY × Int):=
 bnd ((bnd (vP c_p0) fun r1=>bif !r1 then (some true) else (some (decide (n_p1<1))):Option Bool)) fun o1=>bif o1 then (some (c_p0,0)) else (bnd (elt c_p0.L c_p0.At) fun x1=>bnd ((bif decide (n_p1>256) then (bnd (vP (⟨c_p0.L,IntKind.wrap .i64 (c_p0.At+1)⟩:xY)) fun r2=>some r2) else (some false):Option Bool)) fun o2=>bif o2 then (bnd (elt c_p0.L (IntKind.wrap .i64 (c_p0.At+1))) fun x2=>bnd (zKO (iOr .i64 (IntKind.wrap .i64 x1) (kY .i64 (IntKind.wrap .i64 x2) 8)) n_p1) fun q1=>some ((⟨c_p0.L,IntKind.wrap .i64 ((IntKind.wrap .i64 (c_p0.At+1))+1)⟩:xY),q1)) else (bnd (zKO (IntKind.wrap .i64 x1) n_p1) fun q2=>some ((⟨c_p0.L,IntKind.wrap .i64 (c_p0.At+1)⟩:xY),q2)))
end Go.Proofs.YtplchdlgdjcojaaGreatDoor
end
