/-
  Texts of this seat, put together: rules, walks, plain laws.
  Conditions: none.
-/
import Derived.Test.YtplchdlgdjcojaaGreatDoorPO4
section
namespace Go.Proofs.YtplchdlgdjcojaaGreatDoor
open Go
set_option linter.unusedVariables false
set_option maxHeartbeats 4000000
set_option maxRecDepth 4000
theorem yM {c_p0 n_p1 A1 c1 gb1 r} (h:yJ c_p0 n_p1=some r):
    Fun Tryz.prog 31 [.pointer (some ⟨gb1,0,none⟩), .int .i64 n_p1] [.ro (SlL eu8 A1 c1 c_p0.L), .res (Box gb1 127 [.slice A1 c_p0.L.length c1, .int .i64 c_p0.At])] (fun v F=>∃ A2 c2,v= .int .i64 r.2∧F= [.ro (SlL eu8 A2 c2 r.1.L), .res (Box gb1 127 [.slice A2 r.1.L.length c2, .int .i64 r.1.At])]):=by
 refine Fun.intro Tryz.func31 rfl rfl rfl fun w R=>?_;refine .ab [0,1] rfl<|.seq<|.seq<|.bd h fun o1 hj1 h=>.cu 0 [0,1, .s 12 (.bool o1)] [] rfl rfl ?_ ?_
 ·refine .region<|.p rfl rfl<|.bd hj1 fun r1 hr1 hj1=>.cq 2 [1] [1] 0 (gL hr1) zTT rfl<|.n 2 rfl<|.gs 9 hj1 rfl (fun hj1=>?_) (fun hj1=>?_)
  ·cases hj1;exact .be rfl<|.hU rfl (zl [1] 0 rfl)
  cases hj1;exact .be rfl<|.hU rfl (zl [1] 0 rfl)
 refine .cb h rfl (fun h=>?_) (fun h=>?_)
 ·refine .ab [4] rfl ?_;cases h;exact .rv rfl rfl ⟨A1,c1,rfl,rfl⟩ (zk 2 1 [1] [1] 0 rfl)
 refine .sk<|.pr [0,1] rfl<|.seq<|.regionF mixed (by kernel_rfl)<|.n 3 rfl<|.lb 0 1 rfl<|.n 3 rfl<|.lb 1 1 rfl<|.bd h fun x1 hx1 h=>.ix1 hx1 0 rfl fun b1 ob1=>.ld ob1 0 0 rfl<|.beq rfl<|.pf [0,1,5] [] 1 rfl rfl<|.a 3 rfl<|.lb 1 1 rfl<|.n 3 rfl<|.sb 1 1 rfl<|.b [0,1,5] rfl<|.seq<|.seq<|.bd h fun o2 hj2 h=>.cu 0 [0,1,5, .s 36 (.bool o2)] [] rfl rfl ?_ ?_
 ·refine .region<|.n 3 rfl<|.gs 33 hj2 rfl (fun hj2=>?_) (fun hj2=>?_)
  ·refine .n 1 rfl<|.gOn rfl rfl<|.bd hj2 fun r2 hr2 hj2=>.cq 2 [1] [] 0 (gL hr2) zTT rfl ?_;cases hj2;exact .be rfl<|.hU rfl zw
  cases hj2;exact .be rfl<|.hU rfl zw
 refine .cb h rfl (fun h=>?_) (fun h=>?_)
 ·refine .seq<|.regionF mixed (by kernel_rfl)<|.n 4 rfl<|.lb 0 0 rfl<|.n 3 rfl<|.lb 1 0 rfl<|.bd h fun x2 hx2 h=>.ix1 hx2 1 rfl fun b2 ob2=>.ld ob2 0 0 rfl<|.beq rfl<|.pf [0,1,5] [] 1 rfl rfl<|.region<|.n 3 rfl<|.lb 1 0 rfl<|.n 3 rfl<|.sb 1 0 rfl<|.b [1,5] rfl<|.a 2 rfl<|.bd h fun q1 hq1 h=>.rem rfl rfl rfl hq1<|.b [4] rfl ?_;cases h;exact .rv rfl rfl ⟨A1,c1,rfl,rfl⟩ (zk 2 1 [1] [] 0 rfl)
 refine .sk<|.pr [1,5] rfl<|.a 2 rfl<|.bd h fun q2 hq2 h=>.rem rfl rfl rfl hq2<|.b [4] rfl ?_;cases h;exact .rv rfl rfl ⟨A1,c1,rfl,rfl⟩ (zk 2 1 [1] [] 0 rfl)
theorem zLL:Ent Tryz.prog 216:=en Tryz.func216 (by kernel_rfl)
noncomputable def nB (s_p0:ByteArray):Option Bool:=
 bnd ((bif decide ((s_p0.size:Int)<1) then (some true) else (bif decide ((s_p0.size:Int)>16) then (some true) else (bnd (eltS s_p0 0) fun y1=>bif decide (y1<97) then (some true) else (some (decide (y1>122))))):Option Bool)) fun o1=>bif o1 then (some false) else (bnd (yE (τ:=Bool ⊕ Unit) (fun (s1:Int)=>bif decide (s1<(s_p0.size:Int)) then (bnd ((bnd (eltS s_p0 s1) fun y2=>bif decide (y2≥97) then (bif decide (y2≤122) then (some false) else (bif decide (y2≥48) then (bif decide (y2≤57) then (some false) else (some (!(y2==45)))) else (some (!(y2==45))))) else (bif decide (y2≥48) then (bif decide (y2≤57) then (some false) else (some (!(y2==45)))) else (some (!(y2==45)))):Option Bool)) fun o4=>bif o4 then (some (.done (.inl false))) else (some (.next (IntKind.wrap .i64 (s1+1))))) else (some (.done (.inr ())))) 0) fun o2=>vB o2 fun o3=>some true)
theorem cA {s_p0 r} (h:nB s_p0=some r):
    Fun Tryz.prog 216 [.string s_p0] [] (Val (.bool r)):=by
 refine Fun.intro Tryz.func216 rfl rfl rfl fun w R=>?_;refine .ab [0] rfl<|.seq<|.seq<|.bd h fun o1 hj1 h=>.cu 0 [0, .s 21 (.bool o1)] [] rfl rfl ?_ ?_
 ·refine .region<|.n 4 rfl<|.gs 7 hj1 rfl (fun hj1=>?_) (fun hj1=>?_)
  ·cases hj1;exact .be rfl<|.hU rfl zw
  refine .n 5 rfl<|.gs 12 hj1 rfl (fun hj1=>?_) (fun hj1=>?_)
  ·cases hj1;exact .be rfl<|.hU rfl zw
  refine .n 1 rfl<|.gOn rfl rfl<|.bd hj1 fun y1 hy1 hj1=>.eltS rfl rfl rfl rfl rfl hy1<|.n 3 rfl<|.gs 17 hj1 rfl (fun hj1=>?_) (fun hj1=>?_)
  ·cases hj1;exact .be rfl<|.hU rfl zw
  refine .n 1 rfl<|.gOn rfl rfl<|.eltS rfl rfl rfl rfl rfl hy1 ?_;cases hj1;exact .be rfl<|.hU rfl zw
 refine .cb h rfl (fun h=>?_) (fun h=>?_)
 ·refine .ab [2] rfl ?_;cases h;exact .rv rfl rfl ⟨rfl,rfl⟩ zw
 refine .sk<|.pr [0] rfl<|.seq<|.ae rfl<|.bd h fun o2 hl1 h=>.cutJ 0 (fun (o3:Unit) (e3:Unit)=>[]) (fun o3 e3=>[]) rfl rfl (fun o3=>o2= .inr o3) ?_ ?_
 ·refine .block<|.loopQ hl1 0 (fun (s1:Int) (e2:Unit)=>[0, .s 3 (.int .i64 s1)]) (fun s1 e2=>[]) rfl rfl () (zb rfl) (fun _ w=>w) ?_;rintro s1 e2 st1 hm1 hd1 h1;refine .seq<|.ab [0,3,25] rfl<|.cb h1 rfl (fun h1=>?_) (fun h1=>?_)
  ·refine .sk<|.pr [0,3] rfl<|.seq<|.block<|.seq<|.bd h1 fun o4 hj2 h1=>.cu 0 [0,3, .s 56 (.bool o4)] [] rfl rfl ?_ ?_
   ·refine .region<|.n 2 rfl<|.bd hj2 fun y2 hy2 hj2=>.eltS rfl rfl rfl rfl rfl hy2<|.n 2 rfl<|.gs 32 hj2 rfl (fun hj2=>?_) (fun hj2=>?_)
    ·refine .n 2 rfl<|.gOn rfl rfl<|.eltS rfl rfl rfl rfl rfl hy2<|.n 3 rfl<|.gs 38 hj2 rfl (fun hj2=>?_) (fun hj2=>?_)
     ·cases hj2;exact .be rfl<|.hU rfl zw
     refine .n 2 rfl<|.gOn rfl rfl<|.eltS rfl rfl rfl rfl rfl hy2<|.n 2 rfl<|.gs 43 hj2 rfl (fun hj2=>?_) (fun hj2=>?_)
     ·refine .n 2 rfl<|.gOn rfl rfl<|.eltS rfl rfl rfl rfl rfl hy2<|.n 4 rfl<|.gs 50 hj2 rfl (fun hj2=>?_) (fun hj2=>?_)
      ·cases hj2;exact .be rfl<|.hU rfl zw
      refine .n 2 rfl<|.gOn rfl rfl<|.eltS rfl rfl rfl rfl rfl hy2 ?_;cases hj2;exact .be rfl<|.hU rfl zw
     refine .n 9 rfl<|.gOn rfl rfl<|.eltS rfl rfl rfl rfl rfl hy2 ?_;cases hj2;exact .be rfl<|.hU rfl zw
    refine .n 8 rfl<|.gOn rfl rfl<|.eltS rfl rfl rfl rfl rfl hy2<|.n 2 rfl<|.gs 43 hj2 rfl (fun hj2=>?_) (fun hj2=>?_)
    ·refine .n 2 rfl<|.gOn rfl rfl<|.eltS rfl rfl rfl rfl rfl hy2<|.n 4 rfl<|.gs 50 hj2 rfl (fun hj2=>?_) (fun hj2=>?_)
     ·cases hj2;exact .be rfl<|.hU rfl zw
     refine .n 2 rfl<|.gOn rfl rfl<|.eltS rfl rfl rfl rfl rfl hy2 ?_;cases hj2;exact .be rfl<|.hU rfl zw
    refine .n 9 rfl<|.gOn rfl rfl<|.eltS rfl rfl rfl rfl rfl hy2 ?_;cases hj2;exact .be rfl<|.hU rfl zw
   refine .cb h1 rfl (fun h1=>?_) (fun h1=>?_)
   ·refine .ab [2] rfl ?_;cases h1;cases hd1 _ rfl
    have h:some _=some _:=h;cases h;exact .rv rfl rfl ⟨rfl,rfl⟩ zw
   refine .skip<|.blkN<|.thenN<|.pr [0,3] rfl<|.region ?_;cases h1;exact .be rfl<|.ag () hm1 rfl zw
  refine .xq rfl ?_;cases h1;cases hd1 _ rfl
  exact .thenN<|.hereI () () rfl trivial zw
 rintro o3 e3 ho;subst ho;have h:=unR h;refine .ae rfl ?_;cases h;exact .rv rfl rfl ⟨rfl,rfl⟩ zw
theorem zLE:Ent Tryz.prog 217:=en Tryz.func217 (by kernel_rfl)
noncomputable def pP (v_p0:zL):Option Bool:=
 bnd ((bif decide (v_p0.Major≥0) then (bif decide (v_p0.Major≤999) then (bif decide (v_p0.Minor≥0) then (bif decide (v_p0.Minor≤999) then (bif decide (v_p0.Patch≥0) then (some (decide (v_p0.Patch≤999))) else (some false)) else (some false)) else (some false)) else (some false)) else (some false):Option Bool)) fun o1=>some o1
theorem eO {v_p0 r} (h:pP v_p0=some r):
    Fun Tryz.prog 217 [.agg #[.int .i64 v_p0.Major, .int .i64 v_p0.Minor, .int .i64 v_p0.Patch]] [] (Val (.bool r)):=by
 refine Fun.intro Tryz.func217 rfl rfl rfl fun w R=>?_;refine .seq<|.region<|.box rfl rfl fun g1=>.b [1] rfl<|.seq<|.bd h fun o1 hj1 h=>.cu 1 [.s 2 (.bool o1)] [] rfl rfl ?_ ?_
 ·refine .region<|.p rfl rfl<|.lb 0 0 rfl<|.n 2 rfl<|.gs 6 hj1 rfl (fun hj1=>?_) (fun hj1=>?_)
  ·refine .n 1 rfl<|.gOn rfl rfl<|.lb 0 0 rfl<|.n 3 rfl<|.gs 11 hj1 rfl (fun hj1=>?_) (fun hj1=>?_)
   ·refine .n 1 rfl<|.gOn rfl rfl<|.lb 1 0 rfl<|.n 3 rfl<|.gs 16 hj1 rfl (fun hj1=>?_) (fun hj1=>?_)
    ·refine .n 1 rfl<|.gOn rfl rfl<|.lb 1 0 rfl<|.n 3 rfl<|.gs 21 hj1 rfl (fun hj1=>?_) (fun hj1=>?_)
     ·refine .n 1 rfl<|.gOn rfl rfl<|.lb 2 0 rfl<|.n 3 rfl<|.gs 26 hj1 rfl (fun hj1=>?_) (fun hj1=>?_)
      ·refine .n 1 rfl<|.gOn rfl rfl<|.lb 2 0 rfl ?_;cases hj1;exact .be rfl<|.hU rfl (zl [] 1 rfl)
      cases hj1;exact .be rfl<|.hU rfl (zl [] 1 rfl)
     cases hj1;exact .be rfl<|.hU rfl (zl [] 1 rfl)
    cases hj1;exact .be rfl<|.hU rfl (zl [] 1 rfl)
   cases hj1;exact .be rfl<|.hU rfl (zl [] 1 rfl)
  cases hj1;exact .be rfl<|.hU rfl (zl [] 1 rfl)
 cases h;exact .rv rfl rfl ⟨rfl,rfl⟩ zw
theorem zMD:Ent Tryz.prog 134:=en Tryz.func134 (by kernel_rfl)
noncomputable def pM (i_p0:zJ):Option Bool:=
 bnd ((bnd (nB i_p0.Name) fun r1=>bif r1 then (bnd (pP i_p0.Version) fun r2=>bif r2 then (bif decide ((i_p0.Data.length:Int)≥1) then (some (decide ((i_p0.Data.length:Int)≤512))) else (some false)) else (some false)) else (some false):Option Bool)) fun o1=>some o1
theorem eQ {i_p0 A1 c1 r} (h:pM i_p0=some r):
    Fun Tryz.prog 134 [.agg (xD i_p0 A1 c1).toArray] [.ro (SlL eu8 A1 c1 i_p0.Data)] (Val (.bool r)):=by
 refine Fun.intro Tryz.func134 rfl rfl rfl fun w R=>?_;refine .seq<|.region<|.box rfl rfl fun g1=>.b [1] rfl<|.seq<|.bd h fun o1 hj1 h=>.cu 2 [.s 2 (.bool o1)] [] rfl rfl ?_ ?_
 ·refine .region<|.p rfl rfl<|.lb 0 0 rfl<|.bd hj1 fun r1 hr1 hj1=>.cv [] (cA hr1) zLL rfl<|.p rfl rfl<|.gs 6 hj1 rfl (fun hj1=>?_) (fun hj1=>?_)
  ·refine .n 1 rfl<|.gOn rfl rfl<|.lb 1 0 rfl<|.gOn rfl rfl<|.bd hj1 fun r2 hr2 hj1=>.cv [] (eO hr2) zLE rfl<|.n 2 rfl<|.gs 11 hj1 rfl (fun hj1=>?_) (fun hj1=>?_)
   ·refine .n 1 rfl<|.gOn rfl rfl<|.lb 4 0 rfl<|.n 4 rfl<|.gs 17 hj1 rfl (fun hj1=>?_) (fun hj1=>?_)
    ·refine .n 1 rfl<|.gOn rfl rfl<|.lb 4 0 rfl ?_;cases hj1;exact .be rfl<|.hU rfl (zl [] 2 rfl)
    cases hj1;exact .be rfl<|.hU rfl (zl [] 2 rfl)
   cases hj1;exact .be rfl<|.hU rfl (zl [] 2 rfl)
  cases hj1;exact .be rfl<|.hU rfl (zl [] 2 rfl)
 cases h;exact .rv rfl rfl ⟨rfl,rfl⟩ zw
theorem zVm:Ent Tryz.prog 135:=en Tryz.func135 (by kernel_rfl)
noncomputable def jF (i_p0:zJ):Option zJ:=
 bnd (app 1 ([]) i_p0.Data) fun l1=>some (⟨i_p0.Name,i_p0.Version,l1⟩:zJ)
theorem zGs {i_p0 A1 c1 r} (h:jF i_p0=some r):
    Fun Tryz.prog 135 [.agg (xD i_p0 A1 c1).toArray] [.ro (SlL eu8 A1 c1 i_p0.Data)] (fun v F=>∃ A2 c2,v= .agg (xD r A2 c2).toArray∧F= [.ro (SlL eu8 A2 c2 r.Data)]):=by
 refine Fun.intro Tryz.func135 rfl rfl rfl fun w R=>?_;refine .seq<|.region<|.box rfl rfl fun g1=>.alloc rfl rfl fun g2=>.b [1,2] rfl<|.a 1 rfl<|.lb 4 1 rfl<|.asrt (fun _ w=>w.nilL eu8 5)<|.bd h fun l1 hl1 h=>.app (E:=eu8) hl1 rfl rfl rfl .z rfl rfl rfl rfl rfl rfl rfl rfl (iV (.tail _ (.tail _ (.tail _ (.head _))))) rfl rfl fun A2 c2=>.p rfl rfl<|.sb 4 2 rfl<|.bf [1,2] [0,0,0] 1 rfl rfl<|.seq<|.region<|.lb 0 0 rfl<|.sb 0 2 rfl<|.bf [2] [0] 1 rfl rfl<|.asrt (fun _ w=>(w.sl [1] 0 rfl).meltL) ?_;cases h;exact .rt rfl Tryz.results135 (.cell rfl (.tail _ (.head _)) rfl .nil) rfl ⟨A2,c2,rfl,rfl⟩ (zk 1 2 [0] [] 0 rfl)
theorem zLG:Ent Tryz.prog 152:=en Tryz.func152 (by kernel_rfl)
noncomputable def qU (s_p0:ByteArray):Option (List Int):=
 bnd (app 1 ([IntKind.wrap .u8 (s_p0.size:Int)]) (nE s_p0)) fun l1=>some l1
theorem cV {s_p0 r} (h:qU s_p0=some r):
    Fun Tryz.prog 152 [.string s_p0] [] (fun v F=>∃ A1 c1,v= .slice A1 r.length c1∧F= [.res (zM eu8 5 A1 c1 r)]):=by
 refine Fun.intro Tryz.func152 rfl rfl rfl fun w R=>?_;refine .ab [0] rfl<|.a 3 rfl<|.bS rfl fun g1=>.p rfl rfl<|.asrt (fun _ w=>w.litL (E:=eu8) (e:=5) [IntKind.wrap .u8 (s_p0.size:Int)] rfl rfl)<|.bd h fun l1 hl1 h=>.app (E:=eu8) hl1 rfl rfl rfl .z rfl rfl rfl rfl rfl rfl rfl (by simp [nE,ByteArray.toList_eq]) (zWX s_p0) rfl rfl fun A1 c1=>.b [2] rfl ?_;cases h;exact .rv rfl rfl ⟨A1,c1,rfl,rfl⟩ zw
theorem zIV:Ent Tryz.prog 228:=en Tryz.func228 (by kernel_rfl)
noncomputable def qR (n_p0:Int):Option (List Int):=
 some ([IntKind.wrap .u8 (vY .i64 n_p0 8),IntKind.wrap .u8 n_p0])
theorem eB {n_p0 r} (h:qR n_p0=some r):
    Fun Tryz.prog 228 [.int .i64 n_p0] [] (fun v F=>∃ A1 c1,v= .slice A1 r.length c1∧F= [.res (zM eu8 5 A1 c1 r)]):=by
 unfold qR at h
 refine Fun.intro Tryz.func228 rfl rfl rfl fun w R=>?_;refine .ab [0] rfl<|.a 5 rfl<|.bS rfl fun g1=>.b [2] rfl<|.asrt (fun _ w=>w.litL (E:=eu8) (e:=5) [IntKind.wrap .u8 (vY .i64 n_p0 8),IntKind.wrap .u8 n_p0] rfl rfl) ?_;cases h;exact .rv rfl rfl ⟨(some ⟨g1,0,none⟩),([IntKind.wrap .u8 (vY .i64 n_p0 8),IntKind.wrap .u8 n_p0]:List Int).length,rfl,rfl⟩ zw
theorem zMA:Ent Tryz.prog 153:=en Tryz.func153 (by kernel_rfl)
noncomputable def uE (v_p0:zL):Option (List Int):=
 bnd (qR v_p0.Major) fun r1=>bnd (qR v_p0.Minor) fun r2=>bnd (app 1 r1 r2) fun l1=>bnd (qR v_p0.Patch) fun r3=>bnd (app 1 l1 r3) fun l2=>some l2
theorem jZ {v_p0 r} (h:uE v_p0=some r):
    Fun Tryz.prog 153 [.agg #[.int .i64 v_p0.Major, .int .i64 v_p0.Minor, .int .i64 v_p0.Patch]] [] (fun v F=>∃ A1 c1,v= .slice A1 r.length c1∧F= [.res (zM eu8 5 A1 c1 r)]):=by
 unfold uE at h
 refine Fun.intro Tryz.func153 rfl rfl rfl fun w R=>?_;refine .seq<|.region<|.box rfl rfl fun g1=>.b [1] rfl<|.seq<|.regionX (iN [0,5,12,16,28,32,11,23,27,39,43,44] .nil) _ mixed (by kernel_rfl) zw<|.yn 1 rfl<|.yx 0 0 rfl<|.yn 1 rfl<|.yl 1 0 rfl<|.yn 1 rfl<|.yl 2 0 rfl<|.xef<|.bd h fun r1 hr1 h=>.cr 2 [] [] 0 (eB hr1) zIV rfl fun A1 c1=>.xk (zl [] 1 rfl)<|.xef<|.bd h fun r2 hr2 h=>.cr 3 [] [] 0 (eB hr2) zIV rfl fun A2 c2=>.xk (zl [] 2 rfl)<|.xef<|.asrt (fun _ w=>w.meltL)<|.bd h fun l1 hl1 h=>.app (E:=eu8) hl1 rfl rfl rfl (.s .z) rfl rfl rfl rfl rfl rfl rfl rfl (iV (.head _)) rfl rfl fun A3 c3=>.xk (zl [] 2 rfl)<|.xef<|.bd h fun r3 hr3 h=>.cr 4 [] [] 0 (eB hr3) zIV rfl fun A4 c4=>.xk (zl [] 3 rfl)<|.xef<|.asrt (fun _ w=>w.meltL)<|.bd h fun l2 hl2 h=>.app (E:=eu8) hl2 rfl rfl rfl (.s .z) rfl rfl rfl rfl rfl rfl rfl rfl (iV (.head _)) rfl rfl fun A5 c5=>.xk (zl [] 3 rfl)<|.yn 1 rfl<|.xdone<|.thenN<|.pf [2] [0] 3 rfl rfl ?_;cases h;exact .rv rfl rfl ⟨A5,c5,rfl,rfl⟩ zw
theorem zPY:Ent Tryz.prog 150:=en Tryz.func150 (by kernel_rfl)
noncomputable def pR (i_p0:zJ):Option (List Int):=
 bnd (qU i_p0.Name) fun r1=>bnd (uE i_p0.Version) fun r2=>bnd (app 1 r1 r2) fun l1=>bnd (qR (i_p0.Data.length:Int)) fun r3=>bnd (app 1 l1 r3) fun l2=>bnd (app 1 l2 i_p0.Data) fun l3=>some l3
theorem zAL {i_p0 A1 c1 r} (h:pR i_p0=some r):
    Fun Tryz.prog 150 [.agg (xD i_p0 A1 c1).toArray] [.ro (SlL eu8 A1 c1 i_p0.Data)] (fun v F=>∃ A2 c2,v= .slice A2 r.length c2∧F= [.res (zM eu8 5 A2 c2 r)]):=by
 unfold pR at h
 refine Fun.intro Tryz.func150 rfl rfl rfl fun w R=>?_;refine .seq<|.region<|.box rfl rfl fun g1=>.b [1] rfl<|.seq<|.regionX (iN [0,5,12,16,11,23,27,28] .nil) _ mixed (by kernel_rfl) zw<|.yn 1 rfl<|.yx 0 0 rfl<|.yn 1 rfl<|.yl 1 0 rfl<|.xef<|.bd h fun r1 hr1 h=>.cr 3 [] [] 0 (cV hr1) zLG rfl fun A2 c2=>.xk (zl [] 1 rfl)<|.xef<|.bd h fun r2 hr2 h=>.cr 4 [] [] 0 (jZ hr2) zMA rfl fun A3 c3=>.xk (zl [] 2 rfl)<|.xef<|.asrt (fun _ w=>w.meltL)<|.bd h fun l1 hl1 h=>.app (E:=eu8) hl1 rfl rfl rfl (.s .z) rfl rfl rfl rfl rfl rfl rfl rfl (iV (.head _)) rfl rfl fun A4 c4=>.xk (zl [] 2 rfl)<|.yn 1 rfl<|.xdone<|.thenN<|.pf [1,3] [0] 1 rfl rfl<|.a 2 rfl<|.lb 4 1 rfl<|.p rfl rfl<|.bd h fun r3 hr3 h=>.cr 4 [] [] 0 (eB hr3) zIV rfl fun A5 c5=>.asrt (fun _ w=>w.meltL)<|.bd h fun l2 hl2 h=>.app (E:=eu8) hl2 rfl rfl rfl (.s .z) rfl rfl rfl rfl rfl rfl rfl rfl (iV (.head _)) rfl rfl fun A6 c6=>.bf [1,3] [0] 1 rfl rfl<|.a 2 rfl<|.lb 4 1 rfl<|.bd h fun l3 hl3 h=>.app (E:=eu8) hl3 rfl rfl rfl .z rfl rfl rfl rfl rfl rfl rfl rfl (iV (.tail _ (.tail _ (.head _)))) rfl rfl fun A7 c7=>.bf [2] [0] 2 rfl rfl ?_;cases h;exact .rv rfl rfl ⟨A7,c7,rfl,rfl⟩ zw
theorem zPX:Ent Tryz.prog 154:=en Tryz.func154 (by kernel_rfl)
noncomputable def pQ (b_p0:(List Int)):Option Int:=
 bnd (yE (τ:=Int) (fun (s1:Int × Int)=>bif decide (s1.2<(b_p0.length:Int)) then (bnd (elt b_p0 s1.2) fun x1=>bnd (yE (τ:=Int) (fun (s2:Int × Int)=>bif decide (s2.2<8) then (bif ((s2.1.tmod 2)==1) then (some (.next (fF .u32 (IntKind.wrap .u32 (s2.1.tdiv 2)) 3988292384,IntKind.wrap .i64 (s2.2+1)))) else (some (.next (IntKind.wrap .u32 (s2.1.tdiv 2),IntKind.wrap .i64 (s2.2+1))))) else (some (.done s2.1))) (fF .u32 s1.1 (IntKind.wrap .u32 x1),0)) fun o2=>some (.next (o2,IntKind.wrap .i64 (s1.2+1)))) else (some (.done s1.1))) (4294967295,0)) fun o1=>some (IntKind.wrap .u32 (4294967295 - o1))
theorem zAO {b_p0 A1 c1 r} (h:pQ b_p0=some r):
    Fun Tryz.prog 154 [.slice A1 b_p0.length c1] [.ro (SlL eu8 A1 c1 b_p0)] (Val (.int .u32 r)):=by
 refine Fun.intro Tryz.func154 rfl rfl rfl fun w R=>?_;refine .ab [0] rfl<|.ae rfl<|.seq<|.ae rfl<|.bd h fun o1 hl1 h=>.cu 1 [.s 3 (.int .u32 o1)] [] rfl rfl ?_ ?_
 ·refine .block<|.loopQ hl1 0 (fun (s1:Int × Int) (e1:Unit)=>[0, .s 3 (.int .u32 s1.1), .s 4 (.int .i64 s1.2)]) (fun s1 e1=>[]) rfl rfl () (zb rfl) (fun _ w=>w) ?_;rintro s1 e1 st1 hm1 hd1 h1;refine .seq<|.ab [0,3,4,10] rfl<|.cb h1 rfl (fun h1=>?_) (fun h1=>?_)
  ·refine .sk<|.pr [0,3,4] rfl<|.seq<|.block<|.a 3 rfl<|.bd h1 fun x1 hx1 h1=>.ix1 hx1 0 rfl fun b1 ob1=>.ld ob1 0 0 rfl<|.bf [0,3,4] [] 1 rfl rfl<|.ae rfl<|.bd h1 fun o2 hl2 h1=>.selfThen<|.cu 0 [0, .s 3 (.int .u32 o2),4] [] rfl rfl ?_ ?_
   ·refine .block<|.loopQ hl2 0 (fun (s2:Int × Int) (e3:Unit)=>[0, .s 3 (.int .u32 s2.1),4, .s 5 (.int .i64 s2.2)]) (fun s2 e3=>[]) rfl rfl () (zb rfl) (fun _ w=>w) ?_;rintro s2 e3 st2 hm2 hd2 h2;refine .seq<|.ab [0,3,4,5,21] rfl<|.cb h2 rfl (fun h2=>?_) (fun h2=>?_)
    ·refine .sk<|.pr [0,3,4,5] rfl<|.seq<|.block<|.ab [0,3,4,5,6] rfl<|.ab [0,3,4,5,6] rfl<|.ab [0,3,4,5,29] rfl<|.cb h2 rfl (fun h2=>?_) (fun h2=>?_)
     ·refine .region<|.n 3 rfl<|.done<|.blkN<|.thenN<|.pr [0,3,4,5] rfl<|.region ?_;cases h2;exact .be rfl<|.ag () hm2 rfl zw
     refine .skip<|.blkN<|.thenN<|.pr [0,3,4,5] rfl<|.region ?_;cases h2;exact .be rfl<|.ag () hm2 rfl zw
    refine .xq rfl ?_;cases h2;cases hd2 _ rfl
    exact .thenN<|.hU rfl zw
   refine .blkN<|.thenN<|.region ?_;cases h1;exact .be rfl<|.ag () hm1 rfl zw
  refine .xq rfl ?_;cases h1;cases hd1 _ rfl
  exact .thenN<|.hU rfl (zl [] 1 rfl)
 refine .ab [2] rfl ?_;cases h;exact .rv rfl rfl ⟨rfl,rfl⟩ zw
theorem zQf:Ent Tryz.prog 136:=en Tryz.func136 (by kernel_rfl)
noncomputable def jJ (i_p0:zJ):Option Int:=
 bnd (pM i_p0) fun r1=>bif !r1 then (some 0) else (bnd (pR i_p0) fun r2=>bnd (pQ r2) fun r3=>some r3)
theorem zDD {i_p0 A1 c1 r} (h:jJ i_p0=some r):
    Fun Tryz.prog 136 [.agg (xD i_p0 A1 c1).toArray] [.ro (SlL eu8 A1 c1 i_p0.Data)] (Val (.int .u32 r)):=by
 refine Fun.intro Tryz.func136 rfl rfl rfl fun w R=>?_;refine .seq<|.region<|.box rfl rfl fun g1=>.b [1] rfl<|.seq<|.seq<|.region<|.lb 0 0 rfl<|.bd h fun r1 hr1 h=>.cv [1] (eQ hr1) zMD rfl<|.b [1,5] rfl<|.cb h rfl (fun h=>?_) (fun h=>?_)
 ·refine .abf [2] [] 2 rfl rfl ?_;cases h;exact .rv rfl rfl ⟨rfl,rfl⟩ zw
 refine .sk<|.pr [1] rfl<|.seq<|.region<|.lb 0 0 rfl<|.bd h fun r2 hr2 h=>.cr 3 [1] [] 0 (zAL hr2) zPY rfl fun A2 c2=>.asrt (fun _ w=>w.meltL)<|.bd h fun r3 hr3 h=>.cv [0] (zAO hr3) zPX rfl<|.bf [2] [] 3 rfl rfl ?_;cases h;exact .rv rfl rfl ⟨rfl,rfl⟩ zw
theorem zWH:Ent Tryz.prog 56:=en Tryz.func56 (by kernel_rfl)
noncomputable def fX (i_p0:zJ):Option (zB × Int):=
 bnd (pM i_p0) fun r1=>bif !r1 then (some ((⟨⟨#[]⟩,(⟨(⟨(⟨⟨#[]⟩,(⟨0,0,0⟩:zL), []⟩:zJ),0⟩:yF),(⟨(⟨⟨#[]⟩,(⟨0,0,0⟩:zL), []⟩:zJ),0⟩:yF)⟩:(qN yF)),0,0,false⟩:zB),1)) else (bnd (jF i_p0) fun r2=>bnd (jJ i_p0) fun r3=>some ((⟨i_p0.Name,(⟨(⟨r2,r3⟩:yF),(⟨(⟨⟨#[]⟩,(⟨0,0,0⟩:zL), []⟩:zJ),0⟩:yF)⟩:(qN yF)),0,0,false⟩:zB),0))
theorem zKF {i_p0 A1 c1 r} (h:fX i_p0=some r):
    Fun Tryz.prog 56 [.agg (xD i_p0 A1 c1).toArray] [.ro (SlL eu8 A1 c1 i_p0.Data)] (fun v F=>∃ A2 c2 A3 c3,v= .tuple #[.agg (zO r.1 A2 c2 A3 c3).toArray, .int .i64 r.2]∧F= [.ro (SlL eu8 A2 c2 r.1.Slots.e0.Image.Data), .ro (SlL eu8 A3 c3 r.1.Slots.e1.Image.Data)]):=by
 refine Fun.intro Tryz.func56 rfl rfl rfl fun w R=>?_;refine .seq<|.region<|.box rfl rfl fun g1=>.alloc rfl rfl fun g2=>.b [1,2] rfl<|.seq<|.seq<|.region<|.lb 0 1 rfl<|.bd h fun r1 hr1 h=>.cv [2] (eQ hr1) zMD rfl<|.b [1,2,7] rfl<|.cb h rfl (fun h=>?_) (fun h=>?_)
 ·refine .a 1 rfl<|.sb 0 0 rfl<|.bf [2,3] [0] 2 rfl rfl<|.asrt (fun _ w=>w.nilSl (cod eu8))<|.asrt (fun _ w=>w.nilSl (cod eu8)) ?_;cases h;exact .rt rfl Tryz.results56 (.cell rfl (.tail _ (.tail _ (.head _))) rfl (.tmp rfl .nil)) rfl ⟨none,0,none,0,rfl,rfl⟩ (zk 2 3 [0,0] [] 0 rfl)
 refine .sk<|.pr [1,2] rfl<|.a 1 rfl<|.lb 0 1 rfl<|.p rfl rfl<|.alloc rfl rfl fun g3=>.sb 0 0 rfl<|.b [1,2,4] rfl<|.seq<|.regionX (iN [1,8,20,7,14,16,24,31] .nil) _ mixed (by kernel_rfl) (zl [] 1 rfl)<|.yx 0 2 rfl<|.yl 0 1 rfl<|.yn 1 rfl<|.xef<|.bd h fun r2 hr2 h=>.cr 5 [3] [] 0 (zGs hr2) zVm rfl fun A2 c2=>.xk (zl [] 2 rfl)<|.bd h fun r3 hr3 h=>.xqc (fun _ h=>h) (zDD hr3) zQf rfl rfl rfl rfl (za [2] rfl)<|.yn 2 rfl<|.xef<|.sb 1 1 rfl<|.xk (zl [] 2 rfl)<|.xdone<|.thenN<|.pf [2,4] [0,0,0] 2 rfl rfl<|.seq<|.region<|.lb 0 0 rfl<|.sb 0 2 rfl<|.bf [2,3] [0] 1 rfl rfl<|.asrt (fun _ w=>w.nilSl (cod eu8)) ?_;cases h;exact .rt rfl Tryz.results56 (.cell rfl (.tail _ (.head _)) rfl (.tmp rfl .nil)) rfl ⟨A2,c2,none,0,rfl,rfl⟩ (zk 2 3 [2,0] [] 0 rfl)
theorem zWu:Ent Tryz.prog 12:=en Tryz.func12 (by kernel_rfl)
noncomputable def sP (c_p0:xS) (most:Int):Option (xS × (List zB)):=
 bnd (jH) fun r1=>bnd (yJ c_p0 most) fun r2=>bnd (sub r1 0 (IntKind.wrap .i64 (1+r2.2))) fun l1=>bnd (yE (τ:=List zB × List Int × Int) (fun (s1:List zB × Int × List Int × Int)=>bif decide (s1.2.1<(l1.length:Int)) then (bnd (elt l1 s1.2.1) fun x1=>bnd (yJ (⟨s1.2.2.1,s1.2.2.2⟩:xS) 5) fun r3=>bnd (yJ r3.1 4) fun r4=>bnd (fX (⟨x1,(⟨IntKind.wrap .i64 (1+(IntKind.wrap .i64 (r3.2.tdiv 4))),0,0⟩:zL), [IntKind.wrap .u8 r4.2]⟩:zJ)) fun r5=>bnd (app 184 s1.1 [r5.1]) fun l2=>some (.next (l2,IntKind.wrap .i64 (s1.2.1+1),r4.1.L,r4.1.At))) else (some (.done (s1.1,s1.2.2.1,s1.2.2.2)))) ([],0,r2.1.L,r2.1.At)) fun o1=>some ((⟨o1.2.1,o1.2.2⟩:xS),o1.1)
theorem bL {c_p0 most A1 c1 gb1 r} (h:sP c_p0 most=some r):
    Fun Tryz.prog 12 [.pointer (some ⟨gb1,0,none⟩), .int .i64 most] [.ro (SlL eu8 A1 c1 c_p0.L), .res (Box gb1 127 [.slice A1 c_p0.L.length c1, .int .i64 c_p0.At])] (fun v F=>∃ A2 c2 A3 c3,v= .slice A3 r.2.length c3∧F= [.ro (SlL eu8 A2 c2 r.1.L), .res (Box gb1 127 [.slice A2 r.1.L.length c2, .int .i64 r.1.At]), .res (xL (yL zF) 64 A3 c3 r.2)]):=by
 refine Fun.intro Tryz.func12 rfl rfl rfl fun w R=>?_;refine .ab [0,1] rfl<|.ae rfl<|.seq<|.seq<|.region<|.bd h fun r1 hr1 h=>.cr 3 [] [] 0 (zGz hr1) zWx rfl fun A2 c2=>.n 2 rfl<|.bd h fun r2 hr2 h=>.cr 4 [2] [2] 0 (yM hr2) jL rfl fun A3 c3=>.p rfl rfl<|.asrt (fun _ w=>(w.sl [2] 0 rfl).meltL)<|.bd h fun l1 hl1 h=>.sub (E:=(cod zVF)) rfl rfl (.head _) rfl rfl rfl rfl rfl rfl rfl hl1 fun A4 c4=>.bf [0,5,15,16,17] [0,1,1] 2 rfl rfl<|.asrt (fun _ w=>w.nilC (yL zF) 64)<|.bd h fun o1 hl1 h=>.cutK 4 (fun (e2:Option Addr × Nat × Option Addr × Nat)=>[.s 5 (.slice e2.1 o1.1.length e2.2.1)]) (fun e2=>[.ro (SlL eu8 e2.2.2.1 e2.2.2.2 o1.2.1), .res (xL (yL zF) 64 e2.1 e2.2.1 o1.1), .res (Box gb1 127 [.slice e2.2.2.1 o1.2.1.length e2.2.2.2, .int .i64 o1.2.2])]) rfl rfl ?_ ?_
 ·refine .block<|.loopQ hl1 4 (fun (s1:List zB × Int × List Int × Int) (e1:Option Addr × Nat × Option Addr × Nat)=>[0, .s 5 (.slice e1.1 s1.1.length e1.2.1),15,16, .s 17 (.int .i64 s1.2.1)]) (fun s1 e1=>[.ro (SlL eu8 e1.2.2.1 e1.2.2.2 s1.2.2.1), .res (xL (yL zF) 64 e1.1 e1.2.1 s1.1),1, .res (Box gb1 127 [.slice e1.2.2.1 s1.2.2.1.length e1.2.2.2, .int .i64 s1.2.2.2])]) rfl rfl (none,0,A3,c3) (zb rfl) (zl [2] 0 rfl) ?_;rintro s1 ⟨A5,c5,A6,c6⟩ st1 hm1 hd1 h1;refine .ae rfl<|.seq<|.cb h1 rfl (fun h1=>?_) (fun h1=>?_)
  ·refine .sk<|.pr [0,5,15,16,17] rfl<|.seq<|.block<|.seq<|.region<|.bd h1 fun x1 hx1 h1=>.ix1 hx1 2 rfl fun b1 ob1=>.ld ob1 0 0 rfl<|.bf [0,5,7,15,16,17] [] 1 rfl rfl<|.a 2 rfl<|.bd h1 fun r3 hr3 h1=>.cr 5 [1] [3] 0 (yM hr3) jL rfl fun A9 c9=>.n 4 rfl<|.bd h1 fun r4 hr4 h1=>.cr 6 [1] [1] 0 (yM hr4) jL rfl fun A10 c10=>.p rfl rfl<|.bS rfl fun g1=>.p rfl rfl<|.asrt (fun _ w=>w.litL (E:=eu8) (e:=5) [IntKind.wrap .u8 r4.2] rfl rfl)<|.asrt (fun _ w=>w.meltL)<|.bd h1 fun r5 hr5 h1=>.ct 9 [0] [] 0 (zKF hr5) zWH rfl fun A11 c11 A12 c12=>.n 3 rfl<|.alloc rfl rfl fun g2=>.sb 0 0 rfl<|.bf [0,5,8,15,16,17] [0,0,0,1,1] 3 rfl rfl<|.region<|.p rfl rfl<|.lb 0 0 rfl<|.bS rfl fun g3=>.bd h1 fun l2 hl2 h1=>.appC (E:=(yL zF)) hl2 rfl rfl rfl (.s (.s (.s (.s (.s (.s .z)))))) rfl rfl rfl rfl rfl rfl rfl rfl (zFK (ls:=zF) [(r5.1,((A11,c11),((A12,c12),())))] (.head _) rfl rfl rfl ⟨(zm 2 rfl),(zm 3 rfl),trivial⟩) rfl rfl fun A13 c13=>.p rfl rfl<|.done<|.blkN<|.thenN<|.pf [0,5,15,16,17] [0] 4 rfl rfl<|.region ?_;cases h1;exact .be rfl<|.ag (A13,c13,A10,c10) hm1 rfl (zl [1,0,1] 0 rfl)
  refine .xq rfl ?_;cases h1;cases hd1 _ rfl
  exact .thenN<|.hE (A5,c5,A6,c6) rfl (zl [0,0] 1 rfl)
 rintro ⟨A7,c7,A8,c8⟩;refine .ab [4] rfl ?_;cases h;exact .rv rfl rfl ⟨A8,c8,A7,c7,rfl,rfl⟩ (zk 3 1 [2] [2,1] 0 rfl)
theorem zWp:Ent Tryz.prog 13:=en Tryz.func13 (by kernel_rfl)
noncomputable def kX (c_p0:xS) (l_p1:(List zB)):Option (xS × (List zX)):=
 bnd (yJ c_p0 4) fun r1=>bnd (yE (τ:=List zX × List Int × Int) (fun (s1:List zX × Int × List Int × Int)=>bnd ((bif decide (s1.2.1>0) then (some (decide ((l_p1.length:Int)>1))) else (some false):Option Bool)) fun o2=>bif o2 then (bnd (yJ (⟨s1.2.2.1,s1.2.2.2⟩:xS) (l_p1.length:Int)) fun r2=>bnd (yJ r2.1 (l_p1.length:Int)) fun r3=>bnd (elt l_p1 r2.2) fun x1=>bnd (elt l_p1 r3.2) fun x2=>bnd (yJ r3.1 2) fun r4=>bif (r2.2 != r3.2) then (bnd (app 80 s1.1 [(⟨x1.Name,(⟨2,0,0⟩:zL),x2.Name,(⟨IntKind.wrap .i64 (1+r4.2),0,0⟩:zL)⟩:zX)]) fun l1=>some (.next (l1,IntKind.wrap .i64 (s1.2.1 - 1),r4.1.L,r4.1.At))) else (some (.next (s1.1,IntKind.wrap .i64 (s1.2.1 - 1),r4.1.L,r4.1.At)))) else (some (.done (s1.1,s1.2.2.1,s1.2.2.2)))) ([],r1.2,r1.1.L,r1.1.At)) fun o1=>some ((⟨o1.2.1,o1.2.2⟩:xS),o1.1)
theorem zGt {c_p0 l_p1 A1 c1 A2 c2 gb1 r} (h:kX c_p0 l_p1=some r):
    Fun Tryz.prog 13 [.pointer (some ⟨gb1,0,none⟩), .slice A2 l_p1.length c2] [.ro (SlL eu8 A1 c1 c_p0.L), .ro (Sl (yL zF) A2 c2 l_p1), .res (Box gb1 127 [.slice A1 c_p0.L.length c1, .int .i64 c_p0.At])] (fun v F=>∃ A3 c3 A4 c4,v= .slice A4 r.2.length c4∧F= [.ro (SlL eu8 A3 c3 r.1.L), .res (Box gb1 127 [.slice A3 r.1.L.length c3, .int .i64 r.1.At]), .res (zM zP 123 A4 c4 r.2)]):=by
 refine Fun.intro Tryz.func13 rfl rfl rfl fun w R=>?_;refine .ab [0,1] rfl<|.ae rfl<|.seq<|.a 1 rfl<|.bd h fun r1 hr1 h=>.cr 4 [1] [2] 0 (yM hr1) jL rfl fun A3 c3=>.bf [0,1,5,6] [0,0] 1 rfl rfl<|.asrt (fun _ w=>w.nilL zP 123)<|.bd h fun o1 hl1 h=>.cutK 4 (fun (e2:Option Addr × Nat × Option Addr × Nat)=>[.s 5 (.slice e2.1 o1.1.length e2.2.1)]) (fun e2=>[.ro (SlL eu8 e2.2.2.1 e2.2.2.2 o1.2.1), .res (zM zP 123 e2.1 e2.2.1 o1.1), .res (Box gb1 127 [.slice e2.2.2.1 o1.2.1.length e2.2.2.2, .int .i64 o1.2.2])]) rfl rfl ?_ ?_
 ·refine .block<|.loopQ hl1 3 (fun (s1:List zX × Int × List Int × Int) (e1:Option Addr × Nat × Option Addr × Nat)=>[0,1, .s 5 (.slice e1.1 s1.1.length e1.2.1), .s 6 (.int .i64 s1.2.1)]) (fun s1 e1=>[.ro (SlL eu8 e1.2.2.1 e1.2.2.2 s1.2.2.1), .res (zM zP 123 e1.1 e1.2.1 s1.1), .res (Box gb1 127 [.slice e1.2.2.1 s1.2.2.1.length e1.2.2.2, .int .i64 s1.2.2.2])]) rfl rfl (none,0,A3,c3) (zb rfl) (zl [1] 0 rfl) ?_;rintro s1 ⟨A4,c4,A5,c5⟩ st1 hm1 hd1 h1;refine .seq<|.seq<|.bd h1 fun o2 hj1 h1=>.cu 0 [0,1,5,6, .s 18 (.bool o2)] [] rfl rfl ?_ ?_
  ·refine .region<|.n 3 rfl<|.gs 14 hj1 rfl (fun hj1=>?_) (fun hj1=>?_)
   ·cases hj1;exact .be rfl<|.hU rfl zw
   cases hj1;exact .be rfl<|.hU rfl zw
  refine .cb h1 rfl (fun h1=>?_) (fun h1=>?_)
  ·refine .sk<|.pr [0,1,5,6] rfl<|.seq<|.block<|.a 3 rfl<|.bd h1 fun r2 hr2 h1=>.cr 5 [1] [2] 0 (yM hr2) jL rfl fun A8 c8=>.n 3 rfl<|.bd h1 fun r3 hr3 h1=>.cr 6 [1] [1] 0 (yM hr3) jL rfl fun A9 c9=>.bf [0,1,5,6,7,8] [0,0] 2 rfl rfl<|.seq<|.bd h1 fun x1 hx1 h1=>.openN (zm 3 rfl) hx1 fun b1 ob1 ex1 hqb1=>?_;obtain ⟨⟨A10,c10⟩,⟨⟨A11,c11⟩,_⟩⟩:=ex1;refine .nm 7 rfl<|.bd h1 fun x2 hx2 h1=>.openN (zm 6 rfl) hx2 fun b2 ob2 ex2 hqb2=>?_;obtain ⟨⟨A12,c12⟩,⟨⟨A13,c13⟩,_⟩⟩:=ex2;refine .nm 10 rfl<|.bd h1 fun r4 hr4 h1=>.regionX (iN [0,4,8,12,16,20,24,28,32,36,40,44] (.alt (iN [51,52,56,60] (iN [67] (iN [71] .nil))) (iN [67] (iN [51,52,56,60] (iN [71] .nil))))) _ mixed (by kernel_rfl) (zl [0,0,0,0,0,0,0] 1 rfl)<|.shareK (Y:=?Ynd1_0) 8 (fun (e:Nat × Option Addr × Nat)=>[0,1,5,6,7,8, .s 9 (.pointer (some ⟨e.1,0,none⟩)), .s 33 (.string x1.Name), .s 34 (.agg #[.int .i64 2, .int .i64 0, .int .i64 0]), .s 39 (.string x2.Name), .s 41 (.int .i64 r4.2), .s 42 (.int .i64 (IntKind.wrap .i64 (1+r4.2))), .s 43 (.agg #[.int .i64 (IntKind.wrap .i64 (1+r4.2)), .int .i64 0, .int .i64 0]), .s 44 (.agg #[.string x1.Name, .int .i64 2, .int .i64 0, .int .i64 0, .string x2.Name, .int .i64 (IntKind.wrap .i64 (1+r4.2)), .int .i64 0, .int .i64 0])]) (fun e=>[.res (Box e.1 123 [.string (⟨#[]⟩), .int .i64 0, .int .i64 0, .int .i64 0, .string (⟨#[]⟩), .int .i64 0, .int .i64 0, .int .i64 0]), .ro (SlL eu8 e.2.1 e.2.2 r4.1.L), .res (Box gb1 127 [.slice e.2.1 r4.1.L.length e.2.2, .int .i64 r4.1.At]),0,1,2,3,4,5,6]) rfl rfl (fun hnd1_0=>?mnd1_0) ?tnd1_0
   case mnd1_0=>
    refine .yn 2 rfl<|.xfl (fun _ h=>h) (Rd.ixN hqb1 hx1 rfl rfl rfl rfl rfl rfl rfl) rfl<|.yn 1 rfl<|.xfl (fun _ h=>h) (Rd.load ob1 0 rfl (zm 3 rfl) rfl rfl) rfl<|.yn 3 rfl<|.xfl (fun _ h=>h) (Rd.ixN hqb2 hx2 rfl rfl rfl rfl rfl rfl rfl) rfl<|.yn 1 rfl<|.xfl (fun _ h=>h) (Rd.load ob2 0 rfl (.head _) rfl rfl) rfl<|.yn 1 rfl<|.xalt ?_ ?_
    ·refine .xef<|.cr 11 [7] [7] 0 (yM hr4) jL rfl fun A14 c14=>.xk (zl [] 2 rfl)<|.yn 3 rfl<|.xef<|.alloc rfl rfl fun g1=>.xk (zl [] 3 rfl) ?_;refine hnd1_0 _ _ (g1,A14,c14) ?_ ?_
     ·exact ⟨rfl,rfl,rfl,rfl,rfl,rfl,rfl,rfl,rfl,rfl,rfl,rfl,rfl,rfl,trivial⟩
     exact fun _ w=>w
    refine .xef<|.alloc rfl rfl fun g1=>.xk (zl [1,1,1,1,1,1,1] 2 rfl)<|.xef<|.cr 12 [8] [8] 0 (yM hr4) jL rfl fun A14 c14=>.xk (zl [] 3 rfl)<|.yn 3 rfl ?_;refine hnd1_0 _ _ (g1,A14,c14) ?_ ?_
    ·exact ⟨rfl,rfl,rfl,rfl,rfl,rfl,rfl,rfl,rfl,rfl,rfl,rfl,rfl,rfl,trivial⟩
    exact fun _ w=>(w.sl [2] 0 rfl)
   case tnd1_0=>
    rintro ⟨g1,A14,c14⟩;refine .nm 12 rfl<|.xef<|.sb 0 0 rfl<|.xk (zl [] 3 rfl)<|.xdone<|.thenN<|.pf [0,1,5,6,7,8,9] [0,0,0] 7 rfl rfl<|.ab [0,1,5,6,9,47] rfl<|.cb h1 rfl (fun h1=>?_) (fun h1=>?_)
    ·refine .region<|.p rfl rfl<|.lb 0 0 rfl<|.bS rfl fun g2=>.bd h1 fun l1 hl1 h1=>.app (E:=zP) hl1 rfl rfl rfl (.s (.s (.s (.s .z)))) rfl rfl rfl rfl rfl rfl rfl rfl (eI (.head _) rfl rfl) rfl rfl fun A15 c15=>.p rfl rfl<|.done<|.blkN<|.thenN<|.pf [0,1,5,6] [0] 2 rfl rfl<|.region ?_;cases h1;exact .be rfl<|.ag (A15,c15,A14,c14) hm1 rfl (zl [1] 0 rfl)
    refine .skip<|.blkN<|.thenN<|.pf [0,1,5,6] [] 1 rfl rfl<|.region ?_;cases h1;exact .be rfl<|.ag (A4,c4,A14,c14) hm1 rfl (zl [0,1] 0 rfl)
  refine .xq rfl ?_;cases h1;cases hd1 _ rfl
  exact .thenN<|.hE (A4,c4,A5,c5) rfl (zl [0,0,0] 1 rfl)
 rintro ⟨A6,c6,A7,c7⟩;refine .ab [4] rfl ?_;cases h;exact .rv rfl rfl ⟨A7,c7,A6,c6,rfl,rfl⟩ (zk 3 1 [2] [2,1] 0 rfl)
theorem zUV:Ent Tryz.prog 227:=en Tryz.func227 (by kernel_rfl)
noncomputable def jE (l_p0:(List zX)):Option Bool:=
 bif decide ((l_p0.length:Int)>16) then (some false) else (bnd (yE (τ:=Bool ⊕ Unit) (fun (s1:Int)=>bif decide (s1<(l_p0.length:Int)) then (bnd ((bnd (elt l_p0 s1) fun x1=>bnd (nB x1.Component) fun r1=>bif !r1 then (some true) else (bnd (nB x1.On) fun r2=>bif !r2 then (some true) else (bif (x1.Component.toList==x1.On.toList) then (some true) else (bnd (pP x1.From) fun r3=>bif !r3 then (some true) else (bnd (pP x1.At) fun r4=>some (!r4))))):Option Bool)) fun o3=>bif o3 then (some (.done (.inl false))) else (some (.next (IntKind.wrap .i64 (s1+1))))) else (some (.done (.inr ())))) 0) fun o1=>vB o1 fun o2=>some true)
theorem zGG {l_p0 A1 c1 r} (h:jE l_p0=some r):
    Fun Tryz.prog 227 [.slice A1 l_p0.length c1] [.ro (SlL zP A1 c1 l_p0)] (Val (.bool r)):=by
 refine Fun.intro Tryz.func227 rfl rfl rfl fun w R=>?_;refine .ab [0] rfl<|.seq<|.ab [0,6] rfl<|.cb h rfl (fun h=>?_) (fun h=>?_)
 ·refine .abf [2] [] 1 rfl rfl ?_;cases h;exact .rv rfl rfl ⟨rfl,rfl⟩ zw
 refine .sk<|.pr [0] rfl<|.seq<|.ae rfl<|.bd h fun o1 hl1 h=>.cutJ 1 (fun (o2:Unit) (e2:Unit)=>[]) (fun o2 e2=>[]) rfl rfl (fun o2=>o1= .inr o2) ?_ ?_
 ·refine .block<|.loopQ hl1 0 (fun (s1:Int) (e1:Unit)=>[0, .s 3 (.int .i64 s1)]) (fun s1 e1=>[]) rfl rfl () (zb rfl) (fun _ w=>w) ?_;rintro s1 e1 st1 hm1 hd1 h1;refine .seq<|.ab [0,3,10] rfl<|.cb h1 rfl (fun h1=>?_) (fun h1=>?_)
  ·refine .sk<|.pr [0,3] rfl<|.seq<|.block<|.seq<|.bd h1 fun o3 hj1 h1=>.cu 0 [0,3, .s 59 (.bool o3)] [] rfl rfl ?_ ?_
   ·refine .regionF mixed (by kernel_rfl)<|.n 2 rfl<|.bd hj1 fun x1 hx1 hj1=>.ix1 hx1 0 rfl fun b1 ob1=>.p rfl rfl<|.ld ob1 0 0 rfl<|.bd hj1 fun r1 hr1 hj1=>.cv [] (cA hr1) zLL rfl<|.n 2 rfl<|.gs 20 hj1 rfl (fun hj1=>?_) (fun hj1=>?_)
    ·cases hj1;exact .beq rfl<|.hU rfl (zl [] 1 rfl)
    refine .n 2 rfl<|.gOn rfl rfl<|.ix1 hx1 1 rfl fun b2 ob2=>.n 1 rfl<|.gOn rfl rfl<|.ld ob2 4 0 rfl<|.gOn rfl rfl<|.bd hj1 fun r2 hr2 hj1=>.cv [] (cA hr2) zLL rfl<|.n 3 rfl<|.gs 29 hj1 rfl (fun hj1=>?_) (fun hj1=>?_)
    ·cases hj1;exact .beq rfl<|.hU rfl (zl [] 2 rfl)
    refine .n 2 rfl<|.gOn rfl rfl<|.ix1 hx1 2 rfl fun b3 ob3=>.n 1 rfl<|.gOn rfl rfl<|.ld ob3 0 0 rfl<|.n 2 rfl<|.gOn rfl rfl<|.ix1 hx1 3 rfl fun b4 ob4=>.n 1 rfl<|.gOn rfl rfl<|.ld ob4 4 0 rfl<|.n 3 rfl<|.gs 42 hj1 rfl (fun hj1=>?_) (fun hj1=>?_)
    ·cases hj1;exact .beq rfl<|.hU rfl (zl [] 4 rfl)
    refine .n 2 rfl<|.gOn rfl rfl<|.ix1 hx1 4 rfl fun b5 ob5=>.n 1 rfl<|.gOn rfl rfl<|.ld ob5 1 0 rfl<|.gOn rfl rfl<|.bd hj1 fun r3 hr3 hj1=>.cv [] (eO hr3) zLE rfl<|.n 3 rfl<|.gs 51 hj1 rfl (fun hj1=>?_) (fun hj1=>?_)
    ·cases hj1;exact .beq rfl<|.hU rfl (zl [] 5 rfl)
    refine .n 2 rfl<|.gOn rfl rfl<|.ix1 hx1 5 rfl fun b6 ob6=>.n 1 rfl<|.gOn rfl rfl<|.ld ob6 5 0 rfl<|.gOn rfl rfl<|.bd hj1 fun r4 hr4 hj1=>.cv [] (eO hr4) zLE rfl ?_;cases hj1;exact .beq rfl<|.hU rfl (zl [] 6 rfl)
   refine .cb h1 rfl (fun h1=>?_) (fun h1=>?_)
   ·refine .abf [2] [] 1 rfl rfl ?_;cases h1;cases hd1 _ rfl
    have h:some _=some _:=h;cases h;exact .rv rfl rfl ⟨rfl,rfl⟩ zw
   refine .skip<|.blkN<|.thenN<|.pr [0,3] rfl<|.region ?_;cases h1;exact .be rfl<|.ag () hm1 rfl zw
  refine .xq rfl ?_;cases h1;cases hd1 _ rfl
  exact .thenN<|.hereI () () rfl trivial (zl [] 1 rfl)
 rintro o2 e2 ho;subst ho;have h:=unR h;refine .ae rfl ?_;cases h;exact .rv rfl rfl ⟨rfl,rfl⟩ zw
theorem zUZ:Ent Tryz.prog 149:=en Tryz.func149 (by kernel_rfl)
noncomputable def jG (b_p0:zV):Option Int:=
 bnd ((bif decide ((b_p0.Images.length:Int)<1) then (some true) else (some (decide ((b_p0.Images.length:Int)>8))):Option Bool)) fun o1=>bif o1 then (some 2) else (bnd (yE (τ:=Int ⊕ Unit) (fun (s1:Int)=>bif decide (s1<(b_p0.Images.length:Int)) then (bnd (elt b_p0.Images s1) fun x1=>bnd (pM x1) fun r1=>bif !r1 then (some (.done (.inl 1))) else (bnd ((bif decide (s1>0) then (bnd (elt b_p0.Images (IntKind.wrap .i64 (s1 - 1))) fun x2=>some (!(Op.bytesLess x2.Name.toList x1.Name.toList))) else (some false):Option Bool)) fun o4=>bif o4 then (some (.done (.inl 7))) else (some (.next (IntKind.wrap .i64 (s1+1)))))) else (some (.done (.inr ())))) 0) fun o2=>vB o2 fun o3=>bif decide ((b_p0.Needs.length:Int)>16) then (some 3) else (bnd (jE b_p0.Needs) fun r2=>bif !r2 then (some 1) else (some 0)))
theorem zGv {b_p0 A1 c1 A2 c2 r} (h:jG b_p0=some r):
    Fun Tryz.prog 149 [.agg #[.slice A1 b_p0.Images.length c1, .slice A2 b_p0.Needs.length c2]] [.ro (Sl (yL yX) A1 c1 b_p0.Images), .ro (SlL zP A2 c2 b_p0.Needs)] (Val (.int .i64 r)):=by
 refine Fun.intro Tryz.func149 rfl rfl rfl fun w R=>?_;refine .seq<|.region<|.box rfl rfl fun g1=>.b [1] rfl<|.seq<|.seq<|.bd h fun o1 hj1 h=>.cu 0 [1, .s 13 (.bool o1)] [] rfl rfl ?_ ?_
 ·refine .region<|.p rfl rfl<|.lb 0 0 rfl<|.n 3 rfl<|.gs 8 hj1 rfl (fun hj1=>?_) (fun hj1=>?_)
  ·cases hj1;exact .be rfl<|.hU rfl zw
  refine .n 1 rfl<|.gOn rfl rfl<|.lb 0 0 rfl ?_;cases hj1;exact .be rfl<|.hU rfl zw
 refine .cb h rfl (fun h=>?_) (fun h=>?_)
 ·refine .abf [2] [] 3 rfl rfl ?_;cases h;exact .rv rfl rfl ⟨rfl,rfl⟩ zw
 refine .sk<|.pr [1] rfl<|.seq<|.ae rfl<|.bd h fun o2 hl1 h=>.cutJ 0 (fun (o3:Unit) (e3:Unit)=>[1]) (fun o3 e3=>[]) rfl rfl (fun o3=>o2= .inr o3) ?_ ?_
 ·refine .block<|.loopQ hl1 0 (fun (s1:Int) (e2:Unit)=>[1, .s 3 (.int .i64 s1)]) (fun s1 e2=>[]) rfl rfl () (zb rfl) (fun _ w=>w) ?_;rintro s1 e2 st1 hm1 hd1 h1;refine .seq<|.a 2 rfl<|.lb 0 0 rfl<|.b [1,3,18] rfl<|.cb h1 rfl (fun h1=>?_) (fun h1=>?_)
  ·refine .sk<|.pr [1,3] rfl<|.seq<|.block<|.seq<|.a 1 rfl<|.lb 0 0 rfl<|.p rfl rfl<|.bd h1 fun x1 hx1 h1=>.ix3 hx1 1 rfl fun b1 ob1 ex1=>?_;obtain ⟨⟨A3,c3⟩,_⟩:=ex1;refine .nm 5 rfl<|.ld ob1 0 0 rfl<|.bd h1 fun r1 hr1 h1=>.cv [1] (eQ hr1) zMD rfl<|.bf [1,3,27] [] 2 rfl rfl<|.cb h1 rfl (fun h1=>?_) (fun h1=>?_)
   ·refine .abf [2] [] 3 rfl rfl ?_;cases h1;cases hd1 _ rfl
    have h:some _=some _:=h;cases h;exact .rv rfl rfl ⟨rfl,rfl⟩ zw
   refine .sk<|.pr [1,3] rfl<|.seq<|.bd h1 fun o4 hj2 h1=>.cu 0 [1,3, .s 45 (.bool o4)] [] rfl rfl ?_ ?_
   ·refine .regionF mixed (by kernel_rfl)<|.n 3 rfl<|.gs 30 hj2 rfl (fun hj2=>?_) (fun hj2=>?_)
    ·refine .n 1 rfl<|.gOn rfl rfl<|.lb 0 0 rfl<|.n 2 rfl<|.gOn rfl rfl<|.bd hj2 fun x2 hx2 hj2=>.ix3 hx2 1 rfl fun b2 ob2 ex2=>?_;obtain ⟨⟨A4,c4⟩,_⟩:=ex2;refine .nm 5 rfl<|.n 1 rfl<|.gOn rfl rfl<|.ld ob2 0 0 rfl<|.n 1 rfl<|.gOn rfl rfl<|.lb 0 2 rfl<|.n 1 rfl<|.gOn rfl rfl<|.ix3 hx1 3 rfl fun b3 ob3 ex3=>?_;obtain ⟨⟨A5,c5⟩,_⟩:=ex3;refine .nm 7 rfl<|.n 1 rfl<|.gOn rfl rfl<|.ld ob3 0 0 rfl ?_;cases hj2;exact .beq rfl<|.hU rfl (zl [] 4 rfl)
    cases hj2;exact .beq rfl<|.hU rfl zw
   refine .cb h1 rfl (fun h1=>?_) (fun h1=>?_)
   ·refine .abf [2] [] 3 rfl rfl ?_;cases h1;cases hd1 _ rfl
    have h:some _=some _:=h;cases h;exact .rv rfl rfl ⟨rfl,rfl⟩ zw
   refine .skip<|.blkN<|.thenN<|.pr [1,3] rfl<|.region ?_;cases h1;exact .be rfl<|.ag () hm1 rfl zw
  refine .xq rfl ?_;cases h1;cases hd1 _ rfl
  exact .thenN<|.hereI () () rfl (zb rfl) zw
 rintro o3 e3 ho;subst ho;have h:=unR h;refine .seq<|.block<|.a 1 rfl<|.lb 1 0 rfl<|.b [1,46] rfl<|.cb h rfl (fun h=>?_) (fun h=>?_)
 ·refine .abf [2] [] 3 rfl rfl ?_;cases h;exact .rv rfl rfl ⟨rfl,rfl⟩ zw
 refine .a 1 rfl<|.lb 1 0 rfl<|.bd h fun r2 hr2 h=>.cv [2] (zGG hr2) zUV rfl<|.bf [51] [] 3 rfl rfl<|.cb h rfl (fun h=>?_) (fun h=>?_)
 ·refine .ab [2] rfl ?_;cases h;exact .rv rfl rfl ⟨rfl,rfl⟩ zw
 refine .skip<|.blkN<|.thenN<|.pr [] rfl<|.ae rfl ?_;cases h;exact .rv rfl rfl ⟨rfl,rfl⟩ zw
theorem zPC:Ent Tryz.prog 151:=en Tryz.func151 (by kernel_rfl)
noncomputable def lD (n_p0:Int):Option (List Int):=
 some ([IntKind.wrap .u8 (vY .u32 n_p0 24),IntKind.wrap .u8 (vY .u32 n_p0 16),IntKind.wrap .u8 (vY .u32 n_p0 8),IntKind.wrap .u8 n_p0])
theorem zCa {n_p0 r} (h:lD n_p0=some r):
    Fun Tryz.prog 151 [.int .u32 n_p0] [] (fun v F=>∃ A1 c1,v= .slice A1 r.length c1∧F= [.res (zM eu8 5 A1 c1 r)]):=by
 unfold lD at h
 refine Fun.intro Tryz.func151 rfl rfl rfl fun w R=>?_;refine .ab [0] rfl<|.a 11 rfl<|.bS rfl fun g1=>.b [2] rfl<|.asrt (fun _ w=>w.litL (E:=eu8) (e:=5) [IntKind.wrap .u8 (vY .u32 n_p0 24),IntKind.wrap .u8 (vY .u32 n_p0 16),IntKind.wrap .u8 (vY .u32 n_p0 8),IntKind.wrap .u8 n_p0] rfl rfl) ?_;cases h;exact .rv rfl rfl ⟨(some ⟨g1,0,none⟩),([IntKind.wrap .u8 (vY .u32 n_p0 24),IntKind.wrap .u8 (vY .u32 n_p0 16),IntKind.wrap .u8 (vY .u32 n_p0 8),IntKind.wrap .u8 n_p0]:List Int).length,rfl,rfl⟩ zw
theorem zWJ:Ent Tryz.prog 68:=en Tryz.func68 (by kernel_rfl)
noncomputable def lE (b_p0:zV):Option ((List Int) × Int):=
 bnd (jG b_p0) fun r1=>bif (r1 != 0) then (some ([],r1)) else (bnd (app 1 ([66,77,67,70]) [IntKind.wrap .u8 (b_p0.Images.length:Int)]) fun l1=>bnd (yE (τ:=List Int) (fun (s1:List Int × Int)=>bif decide (s1.2<(b_p0.Images.length:Int)) then (bnd (elt b_p0.Images s1.2) fun x1=>bnd (pR x1) fun r2=>bnd (app 1 s1.1 r2) fun l2=>bnd (jJ x1) fun r3=>bnd (lD r3) fun r4=>bnd (app 1 l2 r4) fun l3=>some (.next (l3,IntKind.wrap .i64 (s1.2+1)))) else (some (.done s1.1))) (l1,0)) fun o1=>bnd (app 1 o1 [IntKind.wrap .u8 (b_p0.Needs.length:Int)]) fun l4=>bnd (yE (τ:=List Int) (fun (s2:List Int × Int)=>bif decide (s2.2<(b_p0.Needs.length:Int)) then (bnd (elt b_p0.Needs s2.2) fun x2=>bnd (qU x2.Component) fun r5=>bnd (app 1 s2.1 r5) fun l5=>bnd (uE x2.From) fun r6=>bnd (app 1 l5 r6) fun l6=>bnd (qU x2.On) fun r7=>bnd (app 1 l6 r7) fun l7=>bnd (uE x2.At) fun r8=>bnd (app 1 l7 r8) fun l8=>some (.next (l8,IntKind.wrap .i64 (s2.2+1)))) else (some (.done s2.1))) (l4,0)) fun o2=>bnd (pQ o2) fun r9=>bnd (lD r9) fun r10=>bnd (app 1 o2 r10) fun l9=>bif decide ((l9.length:Int)>8192) then (some ([],3)) else (some (l9,0)))
theorem zFQ {b_p0 A1 c1 A2 c2 r} (h:lE b_p0=some r):
    Fun Tryz.prog 68 [.agg #[.slice A1 b_p0.Images.length c1, .slice A2 b_p0.Needs.length c2]] [.ro (Sl (yL yX) A1 c1 b_p0.Images), .ro (SlL zP A2 c2 b_p0.Needs)] (fun v F=>∃ A3 c3,v= .tuple #[.slice A3 r.1.length c3, .int .i64 r.2]∧F= [.res (zM eu8 5 A3 c3 r.1)]):=by
 refine Fun.intro Tryz.func68 rfl rfl rfl fun w R=>?_;refine .seq<|.region<|.box rfl rfl fun g1=>.b [1] rfl<|.seq<|.seq<|.region<|.lb 0 0 rfl<|.bd h fun r1 hr1 h=>.cv [1,2] (zGv hr1) zUZ rfl<|.b [1,4] rfl<|.ab [1,4,12] rfl<|.cb h rfl (fun h=>?_) (fun h=>?_)
 ·refine .abf [2,3] [] 3 rfl rfl<|.asrt (fun _ w=>w.nilL eu8 5) ?_;cases h;exact .rv rfl rfl ⟨none,0,rfl,rfl⟩ zw
 refine .sk<|.pr [1] rfl<|.seq<|.region<|.buildSlice0 rfl rfl rfl rfl rfl rfl rfl rfl fun g2=>.markB rfl rfl rfl rfl rfl rfl<|.p rfl rfl<|.lb 0 1 rfl<|.n 2 rfl<|.bS rfl fun g3=>.asrt (fun _ w=>(w.sl [1] 0 rfl).litL (E:=eu8) (e:=5) [66,77,67,70] rfl rfl)<|.bd h fun l1 hl1 h=>.app (E:=eu8) hl1 rfl rfl rfl .z rfl rfl rfl rfl rfl rfl rfl rfl (eI (.tail _ (.head _)) rfl rfl) rfl rfl fun A3 c3=>.bf [1,5] [0] 1 rfl rfl<|.seq<|.ae rfl<|.bd h fun o1 hl1 h=>.cutK 1 (fun (e2:Option Addr × Nat)=>[1, .s 5 (.slice e2.1 o1.length e2.2)]) (fun e2=>[.res (zM eu8 5 e2.1 e2.2 o1)]) rfl rfl ?_ ?_
 ·refine .block<|.loopQ hl1 1 (fun (s1:List Int × Int) (e1:Option Addr × Nat)=>[1, .s 5 (.slice e1.1 s1.1.length e1.2), .s 6 (.int .i64 s1.2)]) (fun s1 e1=>[.res (zM eu8 5 e1.1 e1.2 s1.1)]) rfl rfl (A3,c3) (zb rfl) (fun _ w=>w) ?_;rintro s1 ⟨A4,c4⟩ st1 hm1 hd1 h1;refine .seq<|.a 2 rfl<|.lb 0 1 rfl<|.b [1,5,6,26] rfl<|.cb h1 rfl (fun h1=>?_) (fun h1=>?_)
  ·refine .sk<|.pr [1,5,6] rfl<|.seq<|.block<|.bd h1 fun x1 hx1 h1=>.openN (zm 2 rfl) hx1 fun b1 ob1 ex1 hqb1=>?_;obtain ⟨⟨A6,c6⟩,_⟩:=ex1;refine .nm 6 rfl<|.regionX (iN [0,4,9,12,17,21,32,36,40,44,48,27,31,54,59,63,64] .nil) _ mixed (by kernel_rfl) (zl [0,0] 1 rfl)<|.yn 2 rfl<|.yx 0 3 rfl<|.yn 1 rfl<|.xfx (Rd.ixN hqb1 hx1 rfl rfl rfl rfl rfl rfl rfl) rfl<|.xfx (Rd.load ob1 0 rfl (.head _) rfl rfl) rfl<|.yn 1 rfl<|.yl 0 2 rfl<|.yn 1 rfl<|.xfl (fun _ h=>h) (Rd.ixN hqb1 hx1 rfl rfl rfl rfl rfl rfl rfl) rfl<|.xfl (fun _ h=>h) (Rd.load ob1 0 rfl (.head _) rfl rfl) rfl<|.xef<|.bd h1 fun r2 hr2 h1=>.cr 7 [1] [] 0 (zAL hr2) zPY rfl fun A7 c7=>.xk (zl [1,1] 2 rfl)<|.xef<|.asrt (fun _ w=>w.meltL)<|.bd h1 fun l2 hl2 h1=>.app (E:=eu8) hl2 rfl rfl rfl (.s (.s (.s .z))) rfl rfl rfl rfl rfl rfl rfl rfl (iV (.head _)) rfl rfl fun A8 c8=>.xk (zl [] 2 rfl)<|.bd h1 fun r3 hr3 h1=>.xqc (fun _ h=>h) (zDD hr3) zQf rfl rfl rfl rfl (za [1] rfl)<|.xef<|.bd h1 fun r4 hr4 h1=>.cr 8 [] [] 0 (zCa hr4) zPC rfl fun A9 c9=>.xk (zl [] 3 rfl)<|.xef<|.asrt (fun _ w=>w.meltL)<|.bd h1 fun l3 hl3 h1=>.app (E:=eu8) hl3 rfl rfl rfl (.s .z) rfl rfl rfl rfl rfl rfl rfl rfl (iV (.head _)) rfl rfl fun A10 c10=>.xk (zl [] 3 rfl)<|.yn 1 rfl<|.xdone<|.blkN<|.thenN<|.pf [1,5,6] [0] 4 rfl rfl<|.region ?_;cases h1;exact .be rfl<|.ag (A10,c10) hm1 rfl zw
  refine .xq rfl ?_;cases h1;cases hd1 _ rfl
  exact .thenN<|.hE (A4,c4) rfl zw
 rintro ⟨A5,c5⟩;refine .a 2 rfl<|.lb 1 1 rfl<|.n 2 rfl<|.bS rfl fun g4=>.bd h fun l4 hl4 h=>.app (E:=eu8) hl4 rfl rfl rfl (.s .z) rfl rfl rfl rfl rfl rfl rfl rfl (eI (.head _) rfl rfl) rfl rfl fun A11 c11=>.bf [1,5] [0] 1 rfl rfl<|.seq<|.ae rfl<|.bd h fun o2 hl2 h=>.cutK 4 (fun (e4:Option Addr × Nat)=>[.s 5 (.slice e4.1 o2.length e4.2)]) (fun e4=>[.res (zM eu8 5 e4.1 e4.2 o2)]) rfl rfl ?_ ?_
 ·refine .block<|.loopQ hl2 1 (fun (s2:List Int × Int) (e3:Option Addr × Nat)=>[1, .s 5 (.slice e3.1 s2.1.length e3.2), .s 7 (.int .i64 s2.2)]) (fun s2 e3=>[.res (zM eu8 5 e3.1 e3.2 s2.1)]) rfl rfl (A11,c11) (zb rfl) (fun _ w=>w) ?_;rintro s2 ⟨A12,c12⟩ st2 hm2 hd2 h2;refine .seq<|.a 2 rfl<|.lb 1 1 rfl<|.b [1,5,7,56] rfl<|.cb h2 rfl (fun h2=>?_) (fun h2=>?_)
  ·refine .sk<|.pr [1,5,7] rfl<|.seq<|.block<|.a 1 rfl<|.lb 1 1 rfl<|.p rfl rfl<|.bd h2 fun x2 hx2 h2=>.ix1 hx2 3 rfl fun b2 ob2=>.ld ob2 0 0 rfl<|.alloc rfl rfl fun g5=>.sb 0 0 rfl<|.bf [1,5,7,8] [0] 1 rfl rfl<|.seq<|.regionX (iN [0,4,9,20,24,15,19,31,35,36] .nil) _ mixed (by kernel_rfl) (zl [0] 1 rfl)<|.yn 2 rfl<|.yx 0 0 rfl<|.yn 1 rfl<|.yl 1 0 rfl<|.xef<|.bd h2 fun r5 hr5 h2=>.cr 6 [] [] 0 (cV hr5) zLG rfl fun A14 c14=>.xk (zl [1] 2 rfl)<|.xef<|.asrt (fun _ w=>w.meltL)<|.bd h2 fun l5 hl5 h2=>.app (E:=eu8) hl5 rfl rfl rfl (.s (.s .z)) rfl rfl rfl rfl rfl rfl rfl rfl (iV (.head _)) rfl rfl fun A15 c15=>.xk (zl [] 2 rfl)<|.xef<|.bd h2 fun r6 hr6 h2=>.cr 7 [] [] 0 (jZ hr6) zMA rfl fun A16 c16=>.xk (zl [] 3 rfl)<|.xef<|.asrt (fun _ w=>w.meltL)<|.bd h2 fun l6 hl6 h2=>.app (E:=eu8) hl6 rfl rfl rfl (.s .z) rfl rfl rfl rfl rfl rfl rfl rfl (iV (.head _)) rfl rfl fun A17 c17=>.xk (zl [] 3 rfl)<|.yn 1 rfl<|.xdone<|.thenN<|.pf [1,5,7,8] [0] 2 rfl rfl<|.regionX (iN [0,4,9,20,24,15,19,31,35,36] .nil) _ mixed (by kernel_rfl) (zl [] 1 rfl)<|.yn 2 rfl<|.yx 4 1 rfl<|.yn 1 rfl<|.yl 5 0 rfl<|.xef<|.bd h2 fun r7 hr7 h2=>.cr 6 [] [] 0 (cV hr7) zLG rfl fun A18 c18=>.xk (zl [] 2 rfl)<|.xef<|.asrt (fun _ w=>w.meltL)<|.bd h2 fun l7 hl7 h2=>.app (E:=eu8) hl7 rfl rfl rfl (.s .z) rfl rfl rfl rfl rfl rfl rfl rfl (iV (.head _)) rfl rfl fun A19 c19=>.xk (zl [] 2 rfl)<|.xef<|.bd h2 fun r8 hr8 h2=>.cr 7 [] [] 0 (jZ hr8) zMA rfl fun A20 c20=>.xk (zl [] 3 rfl)<|.xef<|.asrt (fun _ w=>w.meltL)<|.bd h2 fun l8 hl8 h2=>.app (E:=eu8) hl8 rfl rfl rfl (.s .z) rfl rfl rfl rfl rfl rfl rfl rfl (iV (.head _)) rfl rfl fun A21 c21=>.xk (zl [] 3 rfl)<|.yn 1 rfl<|.xdone<|.blkN<|.thenN<|.pf [1,5,7] [0] 3 rfl rfl<|.region ?_;cases h2;exact .be rfl<|.ag (A21,c21) hm2 rfl zw
  refine .xq rfl ?_;cases h2;cases hd2 _ rfl
  exact .thenN<|.hE (A12,c12) rfl (zl [0] 3 rfl)
 rintro ⟨A13,c13⟩;refine .a 2 rfl<|.bd h fun r9 hr9 h=>.callL (zAO hr9) zPX rfl rfl rfl rfl (gW.own (.head _) gW.nil) (fun _ _ h=>by rw [h.2]; exact True.intro) ?_;rintro _ _ ⟨rfl,rfl⟩;refine .nm 1 rfl<|.bd h fun r10 hr10 h=>.cr 2 [] [] 0 (zCa hr10) zPC rfl fun A22 c22=>.asrt (fun _ w=>w.meltL)<|.bd h fun l9 hl9 h=>.app (E:=eu8) hl9 rfl rfl rfl (.s .z) rfl rfl rfl rfl rfl rfl rfl rfl (iV (.head _)) rfl rfl fun A23 c23=>.bf [5] [0] 1 rfl rfl<|.seq<|.ab [5,89] rfl<|.cb h rfl (fun h=>?_) (fun h=>?_)
 ·refine .abf [2,3] [] 1 rfl rfl<|.asrt (fun _ w=>w.nilL eu8 5) ?_;cases h;exact .rv rfl rfl ⟨none,0,rfl,rfl⟩ zw
 refine .sk<|.pr [5] rfl<|.ab [2,3] rfl ?_;cases h;exact .rv rfl rfl ⟨A23,c23,rfl,rfl⟩ zw
theorem zUk:Ent Tryz.prog 17:=en Tryz.func17 (by kernel_rfl)
noncomputable def pN (c_p0:xS) (l_p1:(List zB)) (needs:(List zX)):Option (xS × (List Int)):=
 bnd (yE (τ:=List zJ × List Int × Int) (fun (s1:Int × List zJ × List Int × Int)=>bif decide (s1.1<(l_p1.length:Int)) then (bnd (elt l_p1 s1.1) fun x1=>bnd (yJ (⟨s1.2.2.1,s1.2.2.2⟩:xS) 5) fun r1=>bif decide (r1.2<4) then (bnd (yJ r1.1 6) fun r2=>bnd (yJ r2.1 256) fun r3=>bnd (app 64 s1.2.1 [(⟨x1.Name,(⟨IntKind.wrap .i64 (1+((IntKind.wrap .i64 (r2.2.tdiv 2)).tmod 3)),0,0⟩:zL), [IntKind.wrap .u8 r3.2]⟩:zJ)]) fun l1=>some (.next (IntKind.wrap .i64 (s1.1+1),l1,r3.1.L,r3.1.At))) else (some (.next (IntKind.wrap .i64 (s1.1+1),s1.2.1,r1.1.L,r1.1.At)))) else (some (.done (s1.2.1,s1.2.2.1,s1.2.2.2)))) (0, [],c_p0.L,c_p0.At)) fun o1=>bnd (yE (τ:=List zX × List Int × Int) (fun (s2:Int × List zX × List Int × Int)=>bif decide (s2.1<(needs.length:Int)) then (bnd (elt needs s2.1) fun x2=>bnd (yJ (⟨s2.2.2.1,s2.2.2.2⟩:xS) 2) fun r4=>bif (r4.2==0) then (bnd (app 80 s2.2.1 [x2]) fun l2=>some (.next (IntKind.wrap .i64 (s2.1+1),l2,r4.1.L,r4.1.At))) else (some (.next (IntKind.wrap .i64 (s2.1+1),s2.2.1,r4.1.L,r4.1.At)))) else (some (.done (s2.2.1,s2.2.2.1,s2.2.2.2)))) (0, [],o1.2.1,o1.2.2)) fun o2=>bnd ((bnd (yJ (⟨o2.2.1,o2.2.2⟩:xS) 16) fun r5=>bif (r5.2==15) then (bnd (app 64 o1.1 [(⟨⟨#[122,122,122]⟩,(⟨1,0,0⟩:zL), [1]⟩:zJ)]) fun l3=>some (l3,o2.1,r5.1.L,r5.1.At)) else (bif (r5.2==14) then (bnd (app 80 o2.1 [(⟨⟨#[97]⟩,(⟨0,0,0⟩:zL),⟨#[98]⟩,(⟨0,0,0⟩:zL)⟩:zX)]) fun l4=>some (o1.1,l4,r5.1.L,r5.1.At)) else (some (o1.1,o2.1,r5.1.L,r5.1.At))):Option (List zJ × List zX × List Int × Int))) fun o3=>bnd (lE (⟨o3.1,o3.2.1⟩:zV)) fun r6=>bnd ((bnd (yJ (⟨o3.2.2.1,o3.2.2.2⟩:xS) 16) fun r7=>bif (r7.2==15) then (some (decide ((r6.1.length:Int)>0),r7.1.L,r7.1.At)) else (some (false,r7.1.L,r7.1.At)):Option (Bool × List Int × Int))) fun o4=>bif o4.1 then (bnd (yJ (⟨o4.2.1,o4.2.2⟩:xS) (r6.1.length:Int)) fun r8=>bnd (elt r6.1 r8.2) fun x3=>bnd (sT r6.1 r8.2 (IntKind.wrap .u8 (x3+1))) fun l5=>some (r8.1,l5)) else (some ((⟨o4.2.1,o4.2.2⟩:xS),r6.1))
theorem zAH {c_p0 l_p1 needs A1 c1 A2 c2 A3 c3 gb1 r} (h:pN c_p0 l_p1 needs=some r):
    Fun Tryz.prog 17 [.pointer (some ⟨gb1,0,none⟩), .slice A2 l_p1.length c2, .slice A3 needs.length c3] [.ro (SlL eu8 A1 c1 c_p0.L), .ro (Sl (yL zF) A2 c2 l_p1), .ro (SlL zP A3 c3 needs), .res (Box gb1 127 [.slice A1 c_p0.L.length c1, .int .i64 c_p0.At])] (fun v F=>∃ A4 c4 A5 c5,v= .slice A5 r.2.length c5∧F= [.ro (SlL eu8 A4 c4 r.1.L), .res (Box gb1 127 [.slice A4 r.1.L.length c4, .int .i64 r.1.At]), .res (zM eu8 5 A5 c5 r.2)]):=by
 refine Fun.intro Tryz.func17 rfl rfl rfl fun w R=>?_;refine .ab [0,1,2] rfl<|.seq<|.region<|.alloc rfl rfl fun g1=>.done<|.thenN<|.seq<|.ab [0,2,7,14,15,16] rfl<|.asrt (fun _ w=>w.nilC (yL yX) 58)<|.bd h fun o1 hl1 h=>.cutK 6 (fun (e2:Option Addr × Nat × Option Addr × Nat)=>[0,2,7]) (fun e2=>[.ro (SlL eu8 e2.2.2.1 e2.2.2.2 o1.2.1), .res (xL (yL yX) 58 e2.1 e2.2.1 o1.1), .res (Box g1 46 [.slice e2.1 o1.1.length e2.2.1, .slice none 0 0]),4, .res (Box gb1 127 [.slice e2.2.2.1 o1.2.1.length e2.2.2.2, .int .i64 o1.2.2])]) rfl rfl ?_ ?_
 ·refine .block<|.loopQ hl1 6 (fun (s1:Int × List zJ × List Int × Int) (e1:Option Addr × Nat × Option Addr × Nat)=>[0,2,7,14,15, .s 16 (.int .i64 s1.1)]) (fun s1 e1=>[.ro (SlL eu8 e1.2.2.1 e1.2.2.2 s1.2.2.1), .res (xL (yL yX) 58 e1.1 e1.2.1 s1.2.1), .res (Box g1 46 [.slice e1.1 s1.2.1.length e1.2.1, .slice none 0 0]),3,4, .res (Box gb1 127 [.slice e1.2.2.1 s1.2.2.1.length e1.2.2.2, .int .i64 s1.2.2.2])]) rfl rfl (none,0,A1,c1) (zb rfl) (zl [2] 0 rfl) ?_;rintro s1 ⟨A4,c4,A5,c5⟩ st1 hm1 hd1 h1;refine .ae rfl<|.seq<|.cb h1 rfl (fun h1=>?_) (fun h1=>?_)
  ·refine .sk<|.pr [0,2,7,14,15,16] rfl<|.seq<|.block<|.seq<|.region<|.bd h1 fun x1 hx1 h1=>.ix3 hx1 3 rfl fun b1 ob1 ex1=>?_;obtain ⟨⟨A8,c8⟩,⟨⟨A9,c9⟩,_⟩⟩:=ex1;refine .nm 9 rfl<|.ld ob1 0 0 rfl<|.alloc rfl rfl fun g2=>.sb 0 0 rfl<|.bf [0,2,7,9,14,15,16] [0] 1 rfl rfl<|.a 1 rfl<|.bd h1 fun r1 hr1 h1=>.cr 10 [4] [8] 0 (yM hr1) jL rfl fun A10 c10=>.bf [0,2,7,9,14,15,16,22] [0,0,0,0,0] 1 rfl rfl<|.cb h1 rfl (fun h1=>?_) (fun h1=>?_)
   ·refine .bd h1 fun r2 hr2 h1=>.bd h1 fun r3 hr3 h1=>.bd h1 fun l1 hl1 h1=>.regionX (iN [0,8,12,16,40] (.alt (iN [7] (iN [23,24,28,32,36] (iN [47,48] (iN [55,56] (iN [63] (iN [67,68] (iN [75] .nil))))))) (iN [23,24,28,32,36] (.alt (iN [7] (iN [47,48] (iN [55,56] (iN [63] (iN [67,68] (iN [75] .nil)))))) (iN [47,48] (.alt (iN [7] (iN [55,56] (iN [63] (iN [67,68] (iN [75] .nil))))) (iN [55,56] (.alt (iN [7] (iN [63] (iN [67,68] (iN [75] .nil)))) (iN [63] (iN [7] (iN [67,68] (iN [75] .nil)))))))))))) _ mixed (by kernel_rfl) (zl [0,1,1,1] 3 rfl)<|.shareK (Y:=?Ynd1_0) 2 (fun (e:Nat × Nat × Option Addr × Nat × Option Addr × Nat)=>[0,2,7,14,15,16, .s 24 (.slice A4 s1.2.1.length c4), .s 26 (.string x1.Name), .s 28 (.int .i64 r2.2), .s 29 (.int .i64 (IntKind.wrap .i64 (r2.2.tdiv 2))), .s 30 (.int .i64 ((IntKind.wrap .i64 (r2.2.tdiv 2)).tmod 3)), .s 31 (.int .i64 (IntKind.wrap .i64 (1+((IntKind.wrap .i64 (r2.2.tdiv 2)).tmod 3)))), .s 32 (.agg #[.int .i64 (IntKind.wrap .i64 (1+((IntKind.wrap .i64 (r2.2.tdiv 2)).tmod 3))), .int .i64 0, .int .i64 0]), .s 34 (.int .i64 r3.2), .s 36 (.slice (some ⟨e.1,0,none⟩) 1 1), .s 38 (.slice (some ⟨e.2.1,0,none⟩) 1 1)]) (fun e=>[.res (Box e.2.1 58 [.string x1.Name, .int .i64 (IntKind.wrap .i64 (1+((IntKind.wrap .i64 (r2.2.tdiv 2)).tmod 3))), .int .i64 0, .int .i64 0, .slice (some ⟨e.1,0,none⟩) 1 1]), .res (Box e.1 5 [.int .u8 (IntKind.wrap .u8 r3.2)]), .ro (SlL eu8 e.2.2.1 e.2.2.2.1 r3.1.L), .res (Box gb1 127 [.slice e.2.2.1 r3.1.L.length e.2.2.2.1, .int .i64 r3.1.At]), .ro (SlL eu8 e.2.2.2.2.1 e.2.2.2.2.2 r2.1.L),0]) rfl rfl (fun hnd1_0=>?mnd1_0) ?tnd1_0
    case mnd1_0=>
     refine .shareK (Y:=?Ynd1_1) 2 (fun (e:Nat × Option Addr × Nat × Option Addr × Nat)=>[0,2,7,14,15,16, .s 24 (.slice A4 s1.2.1.length c4), .s 26 (.string x1.Name), .s 28 (.int .i64 r2.2), .s 29 (.int .i64 (IntKind.wrap .i64 (r2.2.tdiv 2))), .s 30 (.int .i64 ((IntKind.wrap .i64 (r2.2.tdiv 2)).tmod 3)), .s 31 (.int .i64 (IntKind.wrap .i64 (1+((IntKind.wrap .i64 (r2.2.tdiv 2)).tmod 3)))), .s 32 (.agg #[.int .i64 (IntKind.wrap .i64 (1+((IntKind.wrap .i64 (r2.2.tdiv 2)).tmod 3))), .int .i64 0, .int .i64 0]), .s 34 (.int .i64 r3.2), .s 36 (.slice (some ⟨e.1,0,none⟩) 1 1), .s 37 (.agg #[.string x1.Name, .int .i64 (IntKind.wrap .i64 (1+((IntKind.wrap .i64 (r2.2.tdiv 2)).tmod 3))), .int .i64 0, .int .i64 0, .slice (some ⟨e.1,0,none⟩) 1 1])]) (fun e=>[.res (Box e.1 5 [.int .u8 (IntKind.wrap .u8 r3.2)]), .ro (SlL eu8 e.2.1 e.2.2.1 r3.1.L), .res (Box gb1 127 [.slice e.2.1 r3.1.L.length e.2.2.1, .int .i64 r3.1.At]), .ro (SlL eu8 e.2.2.2.1 e.2.2.2.2 r2.1.L),0]) rfl rfl (fun hnd1_1=>?mnd1_1) ?tnd1_1
     case mnd1_1=>
      refine .shareK (Y:=?Ynd1_2) 2 (fun (e:Option Addr × Nat × Option Addr × Nat)=>[0,2,7,14,15,16, .s 24 (.slice A4 s1.2.1.length c4), .s 26 (.string x1.Name), .s 28 (.int .i64 r2.2), .s 29 (.int .i64 (IntKind.wrap .i64 (r2.2.tdiv 2))), .s 30 (.int .i64 ((IntKind.wrap .i64 (r2.2.tdiv 2)).tmod 3)), .s 31 (.int .i64 (IntKind.wrap .i64 (1+((IntKind.wrap .i64 (r2.2.tdiv 2)).tmod 3)))), .s 32 (.agg #[.int .i64 (IntKind.wrap .i64 (1+((IntKind.wrap .i64 (r2.2.tdiv 2)).tmod 3))), .int .i64 0, .int .i64 0]), .s 34 (.int .i64 r3.2), .s 35 (.int .u8 (IntKind.wrap .u8 r3.2))]) (fun e=>[.ro (SlL eu8 e.1 e.2.1 r3.1.L), .res (Box gb1 127 [.slice e.1 r3.1.L.length e.2.1, .int .i64 r3.1.At]), .ro (SlL eu8 e.2.2.1 e.2.2.2 r2.1.L),0]) rfl rfl (fun hnd1_2=>?mnd1_2) ?tnd1_2
      case mnd1_2=>
       refine .shareK (Y:=?Ynd1_3) 2 (fun (e:Option Addr × Nat)=>[0,2,7,14,15,16, .s 24 (.slice A4 s1.2.1.length c4), .s 26 (.string x1.Name), .s 28 (.int .i64 r2.2), .s 29 (.int .i64 (IntKind.wrap .i64 (r2.2.tdiv 2))), .s 30 (.int .i64 ((IntKind.wrap .i64 (r2.2.tdiv 2)).tmod 3)), .s 31 (.int .i64 (IntKind.wrap .i64 (1+((IntKind.wrap .i64 (r2.2.tdiv 2)).tmod 3)))), .s 32 (.agg #[.int .i64 (IntKind.wrap .i64 (1+((IntKind.wrap .i64 (r2.2.tdiv 2)).tmod 3))), .int .i64 0, .int .i64 0]), .s 33 (.pointer (some ⟨gb1,0,none⟩))]) (fun e=>[.ro (SlL eu8 e.1 e.2 r2.1.L), .res (Box gb1 127 [.slice e.1 r2.1.L.length e.2, .int .i64 r2.1.At]),0]) rfl rfl (fun hnd1_3=>?mnd1_3) ?tnd1_3
       case mnd1_3=>
        refine .yn 2 rfl<|.yl 0 1 rfl<|.yn 2 rfl<|.xalt ?_ ?_
        ·refine .xef<|.lb 0 6 rfl<|.xk (zl [0,1,1,1] 3 rfl)<|.xef<|.cr 10 [1] [1] 0 (yM hr2) jL rfl fun A11 c11=>.xk (zl [2,2,2,2] 4 rfl)<|.yn 4 rfl ?_;refine hnd1_3 _ _ (A11,c11) ?_ ?_
         ·exact ⟨rfl,rfl,rfl,rfl,rfl,rfl,rfl,rfl,rfl,rfl,rfl,rfl,rfl,rfl,trivial⟩
         exact fun _ w=>w
        refine .xef<|.cr 10 [1] [1] 0 (yM hr2) jL rfl fun A11 c11=>.xk (zl [2,2,2,2] 4 rfl)<|.yn 4 rfl<|.xalt ?_ ?_
        ·refine .xef<|.lb 0 7 rfl<|.xk (zl [2,2,2,2] 4 rfl) ?_;refine hnd1_3 _ _ (A11,c11) ?_ ?_
         ·exact ⟨rfl,rfl,rfl,rfl,rfl,rfl,rfl,rfl,rfl,rfl,rfl,rfl,rfl,rfl,trivial⟩
         exact fun _ w=>w
        refine .xef<|.cr 11 [1] [1] 0 (yM hr3) jL rfl fun A12 c12=>.xk (zl [3,3,3,3] 5 rfl)<|.yn 1 rfl<|.xalt ?_ ?_
        ·refine .xef<|.lb 0 8 rfl<|.xk (zl [3,3,3,3] 5 rfl) ?_;refine hnd1_2 _ _ (A12,c12,A11,c11) ?_ ?_
         ·exact ⟨rfl,rfl,rfl,rfl,rfl,rfl,rfl,rfl,rfl,rfl,rfl,rfl,rfl,rfl,rfl,trivial⟩
         exact fun _ w=>w
        refine .xef<|.bS rfl fun g3=>.xk (zl [4,4,4,4] 6 rfl)<|.yn 1 rfl<|.xalt ?_ ?_
        ·refine .xef<|.lb 0 9 rfl<|.xk (zl [4,4,4,4] 6 rfl) ?_;refine hnd1_1 _ _ (g3,A12,c12,A11,c11) ?_ ?_
         ·exact ⟨rfl,rfl,rfl,rfl,rfl,rfl,rfl,rfl,rfl,rfl,rfl,rfl,rfl,rfl,rfl,rfl,trivial⟩
         exact fun _ w=>w
        refine .xef<|.bS rfl fun g4=>.xk (zl [5,5,5,5] 7 rfl)<|.xef<|.lb 0 10 rfl<|.xk (zl [5,5,5,5] 7 rfl) ?_;refine hnd1_0 _ _ (g3,g4,A12,c12,A11,c11) ?_ ?_
        ·exact ⟨rfl,rfl,rfl,rfl,rfl,rfl,rfl,rfl,rfl,rfl,rfl,rfl,rfl,rfl,rfl,rfl,trivial⟩
        exact fun _ w=>w
       case tnd1_3=>
        rintro ⟨A11,c11⟩;refine .nm 10 rfl<|.xef<|.cr 11 [1] [1] 0 (yM hr3) jL rfl fun A12 c12=>.xk (zl [3,3,3,3] 5 rfl)<|.yn 1 rfl ?_;refine hnd1_2 _ _ (A12,c12,A11,c11) ?_ ?_
        ·exact ⟨rfl,rfl,rfl,rfl,rfl,rfl,rfl,rfl,rfl,rfl,rfl,rfl,rfl,rfl,rfl,trivial⟩
        exact fun _ w=>w
      case tnd1_2=>
       rintro ⟨A12,c12,A11,c11⟩;refine .nm 11 rfl<|.xef<|.bS rfl fun g3=>.xk (zl [4,4,4,4] 6 rfl)<|.yn 1 rfl ?_;refine hnd1_1 _ _ (g3,A12,c12,A11,c11) ?_ ?_
       ·exact ⟨rfl,rfl,rfl,rfl,rfl,rfl,rfl,rfl,rfl,rfl,rfl,rfl,rfl,rfl,rfl,rfl,trivial⟩
       exact fun _ w=>w
     case tnd1_1=>
      rintro ⟨g3,A12,c12,A11,c11⟩;refine .nm 12 rfl<|.xef<|.bS rfl fun g4=>.xk (zl [5,5,5,5] 7 rfl) ?_;refine hnd1_0 _ _ (g3,g4,A12,c12,A11,c11) ?_ ?_
      ·exact ⟨rfl,rfl,rfl,rfl,rfl,rfl,rfl,rfl,rfl,rfl,rfl,rfl,rfl,rfl,rfl,rfl,trivial⟩
      exact fun _ w=>w
    case tnd1_0=>
     rintro ⟨g3,g4,A12,c12,A11,c11⟩;refine .nm 13 rfl<|.xef<|.asrt (fun _ w=>(w.sl [1] 0 rfl).litL (E:=eu8) (e:=5) [IntKind.wrap .u8 r3.2] rfl rfl)<|.asrt (fun _ w=>w.meltL)<|.appC (E:=(yL yX)) hl1 rfl rfl rfl (.s (.s (.s (.s (.s (.s (.s (.s (.s .z))))))))) rfl rfl rfl rfl rfl rfl rfl rfl (zFK (ls:=yX) [((⟨x1.Name,(⟨IntKind.wrap .i64 (1+((IntKind.wrap .i64 (r2.2.tdiv 2)).tmod 3)),0,0⟩:zL), [IntKind.wrap .u8 r3.2]⟩:zJ),(((some ⟨g3,0,none⟩),([IntKind.wrap .u8 r3.2]:List Int).length),()))] (.tail _ (.head _)) rfl rfl rfl ⟨(.head _),trivial⟩) rfl rfl fun A13 c13=>.xk (zl [6,6,6,6] 7 rfl)<|.yn 1 rfl<|.xef<|.sb 0 10 rfl<|.xk (zl [] 7 rfl)<|.xdone<|.blkN<|.thenN<|.pf [0,2,7,14,15,16] [0,0,2,2] 7 rfl rfl<|.region ?_;cases h1;exact .be rfl<|.ag (A13,c13,A12,c12) hm1 rfl (zl [2,1,0,1,1] 0 rfl)
   refine .skip<|.blkN<|.thenN<|.pf [0,2,7,14,15,16] [0,0] 3 rfl rfl<|.region ?_;cases h1;exact .be rfl<|.ag (A4,c4,A10,c10) hm1 rfl (zl [0,1,1,1,1] 0 rfl)
  refine .xq rfl ?_;cases h1;cases hd1 _ rfl
  exact .thenN<|.hE (A4,c4,A5,c5) rfl (zl [0,0,0] 1 rfl)
 rintro ⟨A6,c6,A7,c7⟩;refine .seq<|.ab [0,7,42,43,44] rfl<|.asrt (fun _ w=>w.nilL zP 123)<|.bd h fun o2 hl2 h=>.cutK 6 (fun (e4:Option Addr × Nat × Option Addr × Nat)=>[0,7]) (fun e4=>[.ro (SlL eu8 e4.2.2.1 e4.2.2.2 o2.2.1), .res (zM zP 123 e4.1 e4.2.1 o2.1),2, .res (Box g1 46 [.slice A6 o1.1.length c6, .slice e4.1 o2.1.length e4.2.1]), .res (Box gb1 127 [.slice e4.2.2.1 o2.2.1.length e4.2.2.2, .int .i64 o2.2.2])]) rfl rfl ?_ ?_
 ·refine .block<|.loopQ hl2 6 (fun (s2:Int × List zX × List Int × Int) (e3:Option Addr × Nat × Option Addr × Nat)=>[0,7,42,43, .s 44 (.int .i64 s2.1)]) (fun s2 e3=>[.ro (SlL eu8 e3.2.2.1 e3.2.2.2 s2.2.2.1), .res (zM zP 123 e3.1 e3.2.1 s2.2.1),2, .res (Box g1 46 [.slice A6 o1.1.length c6, .slice e3.1 s2.2.1.length e3.2.1]),4, .res (Box gb1 127 [.slice e3.2.2.1 s2.2.2.1.length e3.2.2.2, .int .i64 s2.2.2.2])]) rfl rfl (none,0,A7,c7) (zb rfl) (zl [1] 0 rfl) ?_;rintro s2 ⟨A14,c14,A15,c15⟩ st2 hm2 hd2 h2;refine .ae rfl<|.seq<|.cb h2 rfl (fun h2=>?_) (fun h2=>?_)
  ·refine .sk<|.pr [0,7,42,43,44] rfl<|.seq<|.block<|.seq<|.region<|.bd h2 fun x2 hx2 h2=>.ix1 hx2 4 rfl fun b2 ob2=>.ld ob2 0 0 rfl<|.alloc rfl rfl fun g5=>.sb 0 0 rfl<|.bf [0,7,11,42,43,44] [0] 1 rfl rfl<|.a 1 rfl<|.bd h2 fun r4 hr4 h2=>.cr 8 [2] [6] 0 (yM hr4) jL rfl fun A18 c18=>.bf [0,7,11,42,43,44,50] [0,0,0] 1 rfl rfl<|.cb h2 rfl (fun h2=>?_) (fun h2=>?_)
   ·refine .region<|.p rfl rfl<|.lb 1 5 rfl<|.lb 0 2 rfl<|.bS rfl fun g6=>.bd h2 fun l2 hl2 h2=>.app (E:=zP) hl2 rfl rfl rfl (.s (.s (.s (.s .z)))) rfl rfl rfl rfl rfl rfl rfl rfl (eI (.head _) rfl rfl) rfl rfl fun A19 c19=>.p rfl rfl<|.sb 1 6 rfl<|.done<|.blkN<|.thenN<|.pf [0,7,42,43,44] [0,0,1,1] 2 rfl rfl<|.region ?_;cases h2;exact .be rfl<|.ag (A19,c19,A18,c18) hm2 rfl (zl [2,1,2,0,1] 0 rfl)
   refine .skip<|.blkN<|.thenN<|.pf [0,7,42,43,44] [0,0] 1 rfl rfl<|.region ?_;cases h2;exact .be rfl<|.ag (A14,c14,A18,c18) hm2 rfl (zl [0,1,1,1,1] 0 rfl)
  refine .xq rfl ?_;cases h2;cases hd2 _ rfl
  exact .thenN<|.hE (A14,c14,A15,c15) rfl (zl [0,0,0,0] 1 rfl)
 rintro ⟨A16,c16,A17,c17⟩;refine .seq<|.bd h fun o3 hj1 h=>.cutK 5 (fun (e5:Option Addr × Nat × Option Addr × Nat × Option Addr × Nat)=>[0,7]) (fun e5=>[.ro (SlL eu8 e5.2.2.2.2.1 e5.2.2.2.2.2 o3.2.2.1), .res (zM zP 123 e5.2.2.1 e5.2.2.2.1 o3.2.1), .res (xL (yL yX) 58 e5.1 e5.2.1 o3.1), .res (Box g1 46 [.slice e5.1 o3.1.length e5.2.1, .slice e5.2.2.1 o3.2.1.length e5.2.2.2.1]), .res (Box gb1 127 [.slice e5.2.2.2.2.1 o3.2.2.1.length e5.2.2.2.2.2, .int .i64 o3.2.2.2])]) rfl rfl ?_ ?_
 ·refine .a 1 rfl<|.bd hj1 fun r5 hr5 hj1=>.cr 6 [1] [4] 0 (yM hr5) jL rfl fun A23 c23=>.bf [0,7,59] [0,0] 1 rfl rfl<|.block<|.ab [0,7,59,60] rfl<|.cb hj1 rfl (fun hj1=>?_) (fun hj1=>?_)
  ·refine .region<|.p rfl rfl<|.lb 0 4 rfl<|.p rfl rfl<|.bS rfl fun g7=>.p rfl rfl<|.bS rfl fun g8=>.bd hj1 fun l3 hl3 hj1=>.asrt (fun _ w=>(w.sl [1] 0 rfl).litL (E:=eu8) (e:=5) [1] rfl rfl)<|.asrt (fun _ w=>w.meltL)<|.appC (E:=(yL yX)) hl3 rfl rfl rfl (.s (.s (.s (.s (.s .z))))) rfl rfl rfl rfl rfl rfl rfl rfl (zFK (ls:=yX) [((⟨⟨#[122,122,122]⟩,(⟨1,0,0⟩:zL), [1]⟩:zJ),(((some ⟨g7,0,none⟩),([1]:List Int).length),()))] (.tail _ (.head _)) rfl rfl rfl ⟨(.head _),trivial⟩) rfl rfl fun A24 c24=>.p rfl rfl<|.sb 0 6 rfl<|.done<|.blkN ?_;cases hj1;exact .thenN<|.hE (A24,c24,A16,c16,A23,c23) rfl (zl [4,5,1,0] 2 rfl)
  refine .ab [0,7,70] rfl<|.cb hj1 rfl (fun hj1=>?_) (fun hj1=>?_)
  ·refine .region<|.p rfl rfl<|.lb 1 4 rfl<|.p rfl rfl<|.bS rfl fun g9=>.bd hj1 fun l4 hl4 hj1=>.app (E:=zP) hl4 rfl rfl rfl (.s (.s (.s .z))) rfl rfl rfl rfl rfl rfl rfl rfl (eI (.head _) rfl rfl) rfl rfl fun A25 c25=>.p rfl rfl<|.sb 1 5 rfl<|.done<|.blkN ?_;cases hj1;exact .thenN<|.hE (A6,c6,A25,c25,A23,c23) rfl (zl [3,1,3,0] 1 rfl)
  refine .skip<|.blkN ?_;cases hj1;exact .thenN<|.hE (A6,c6,A16,c16,A23,c23) rfl (zl [0,1,1,1] 0 rfl)
 rintro ⟨A20,c20,A21,c21,A22,c22⟩;refine .seq<|.region<|.lb 0 3 rfl<|.asrt (fun _ w=>(w.sl [2] 0 rfl).meltC)<|.asrt (fun _ w=>(w.sl [2] 0 rfl).meltL)<|.bd h fun r6 hr6 h=>.cr 6 [1,0] [] 0 (zFQ hr6) zWJ rfl fun A26 c26=>.bf [0,12] [0,2] 3 rfl rfl<|.seq<|.seq<|.bd h fun o4 hj2 h=>.cutK 3 (fun (e6:Option Addr × Nat)=>[0,12, .s 90 (.bool o4.1)]) (fun e6=>[.ro (SlL eu8 e6.1 e6.2 o4.2.1),0, .res (Box gb1 127 [.slice e6.1 o4.2.1.length e6.2, .int .i64 o4.2.2])]) rfl rfl ?_ ?_
 ·refine .region<|.p rfl rfl<|.bd hj2 fun r7 hr7 hj2=>.cr 4 [2] [2] 0 (yM hr7) jL rfl fun A28 c28=>.n 2 rfl<|.gs 86 hj2 rfl (fun hj2=>?_) (fun hj2=>?_)
  ·cases hj2;exact .be rfl<|.hE (A28,c28) rfl (zl [0,1,0] 1 rfl)
  cases hj2;exact .be rfl<|.hE (A28,c28) rfl (zl [0,1,0] 1 rfl)
 rintro ⟨A27,c27⟩;refine .cb h rfl (fun h=>?_) (fun h=>?_)
 ·refine .region<|.n 4 rfl<|.bd h fun r8 hr8 h=>.cr 4 [1] [2] 0 (yM hr8) jL rfl fun A29 c29=>.bd h fun x3 hx3 h=>.ix2 hx3 3 rfl fun g10 hA=>?_;subst hA;refine .ldO 0 hx3 rfl rfl (zm 3 rfl) rfl rfl<|.p rfl rfl<|.ix2 hx3 3 rfl fun g11 hA=>?_;cases hA;refine .bd h fun l5 hl5 h=>.stO 0 hx3 hl5 rfl rfl (.s (.s (.s .z))) rfl rfl rfl rfl rfl ?_;refine .ss 12 (uZ hl5) ?_;refine .ss 91 (uZ hl5) ?_;refine .ss 93 (uZ hl5)<|.bf [12] [0,0,0] 1 rfl rfl<|.ab [6] rfl ?_;cases h;exact .rv rfl rfl ⟨A29,c29,(some ⟨g10,0,none⟩),c26,rfl,rfl⟩ (zk 3 1 [2] [2] 0 rfl)
 refine .sk<|.pr [12] rfl<|.ab [6] rfl ?_;cases h;exact .rv rfl rfl ⟨A27,c27,A26,c26,rfl,rfl⟩ (zk 3 1 [2] [2,1] 0 rfl)
end Go.Proofs.YtplchdlgdjcojaaGreatDoor
end
section
namespace Go.Proofs.YtplchdlgdjcojaaGreatDoor
open Go
set_option linter.unusedVariables false
set_option maxHeartbeats 4000000
set_option maxRecDepth 4000
theorem zWK:Ent Tryz.prog 37:=en Tryz.func37 (by kernel_rfl)
noncomputable def jA (c_p0:xS):Option (xS × zA × zC × (List Int) × (List zX) × zD):=
 bnd (sP c_p0 4) fun r1=>bnd (kX r1.1 r1.2) fun r2=>bnd (mS 2 1024) fun r3=>zKV r3.1 (bif (r3.2 != 0) then (none) else (none)) (fun q1=>bif (r3.2 != 0) then (none) else (bnd (wM q1 0) fun r4=>zKV r4.2.1 (none) (fun q2=>bnd (tX q2 r1.2 r2.2 r4.1) fun r5=>zKV r5.2.2.1 (bnd ((bif (r4.2.2 != 0) then (some true) else (some (r5.2.2.2 != 0)):Option Bool)) fun o1=>bif o1 then (none) else (bnd (pN r2.1 r1.2 r2.2) fun r6=>none)) (fun q3=>bnd ((bif (r4.2.2 != 0) then (some true) else (some (r5.2.2.2 != 0)):Option Bool)) fun o2=>bif o2 then (none) else (bnd (pN r2.1 r1.2 r2.2) fun r7=>some (r7.1,r5.2.1,q3,r7.2,r2.2,r5.1))))))
theorem zGH {c_p0 A1 c1 gb1 r} (h:jA c_p0=some r):
    Fun Tryz.prog 37 [.pointer (some ⟨gb1,0,none⟩)] [.ro (SlL eu8 A1 c1 c_p0.L), .ro (zBI 0 [(2,some 315),(3,some 316)]), .res (Box gb1 127 [.slice A1 c_p0.L.length c1, .int .i64 c_p0.At])] (fun v F=>∃ g1 g2 g3 A2 c2 A3 c3 A4 c4 A5 c5 A6 c6 A7 c7 A8 c8 A9 c9 A10 c10 A11 c11 M1,v= .tuple #[.pointer (some ⟨g1,0,none⟩), .pointer (some ⟨g2,0,none⟩), .slice A10 r.2.2.2.1.length c10, .slice A11 r.2.2.2.2.1.length c11]∧F= [.ro (SlL eu8 A2 c2 r.1.L), .ro (SlL zP A6 c6 r.2.2.1.needs), .ro (SlL yR A7 c7 r.2.2.1.load.Have), .ro (SlL eu8 A8 c8 r.2.2.1.load.Data), .ro (SlL yC A9 c9 r.2.2.1.order), .ro (SlL zP A11 c11 r.2.2.2.2.1), .res (Box gb1 127 [.slice A2 r.1.L.length c2, .int .i64 r.1.At]), .res (Box g1 131 (zG r.2.1 A3 c3 A4 c4)), .res (zM eu8 5 A3 c3 r.2.1.bytes), .res (zM yC 3 A4 c4 r.2.1.wear), .res (Box g2 144 (zI r.2.2.1 g3 A5 c5 A6 c6 A7 c7 A8 c8 A9 c9)), .res (xL (yL zF) 64 A5 c5 r.2.2.1.devices), .res (zM eu8 5 A10 c10 r.2.2.2.1), .res (Box g3 135 (zN r.2.2.2.2.2 g1 M1)), .res (yO (zZ .u8) (cod eu8) M1 r.2.2.2.2.2.all)]):=by
 refine Fun.intro Tryz.func37 rfl rfl rfl fun w R=>?_;refine .ab [0] rfl<|.a 1 rfl<|.bd h fun r1 hr1 h=>.ct 5 [1] [2] 0 (bL hr1) zWu rfl fun A2 c2 A3 c3=>.bf [0,6] [0,0,0] 1 rfl rfl<|.a 2 rfl<|.asrt (fun _ w=>(w.sl [2] 0 rfl).meltC)<|.bd h fun r2 hr2 h=>.ct 6 [2,1] [2] 0 (zGt hr2) zWp rfl fun A4 c4 A5 c5=>.bf [0,6,7] [0,0,0,0] 1 rfl rfl<|.seq<|.region<|.bd h fun r3 hr3 h=>.call (zDJ hr3) zUm rfl rfl rfl (fun _ w=>w) ?_
 intro v_ F_ hp_
 rcases hq1:r3.1 with _ | q1
 ·replace hp_:=zCO hq1 hp_;replace h:=zDe hq1 h;obtain ⟨rfl,rfl⟩:=hp_;refine .nm 5 rfl<|.b [0,6,7,8,9] rfl<|.seq<|.ab [0,6,7,8,23] rfl<|.cb h rfl (fun h=>?_) (fun h=>?_)
  ·refine .abf [2,3,4,5] [0,0] 2 rfl rfl ?_;cases h
  refine .sk<|.pr [0,6,7,8] rfl<|.a 1 rfl ?_;cases h
 replace hp_:=zCV hq1 hp_;replace h:=zCJ hq1 h;obtain ⟨g1,A6,c6,A7,c7,rfl,rfl⟩:=hp_;refine .nm 8 rfl<|.b [0,6,7,8,9] rfl<|.seq<|.ab [0,6,7,8,23] rfl<|.cb h rfl (fun h=>?_) (fun h=>?_)
 ·refine .abf [2,3,4,5] [3,3] 5 rfl rfl ?_;cases h
 refine .sk<|.pr [0,6,7,8] rfl<|.a 1 rfl<|.bd h fun r4 hr4 h=>.call (bA hr4) zUh rfl rfl rfl (fun _ w=>w) ?_
 intro v_ F_ hp_
 rcases hq2:r4.2.1 with _ | q2
 ·replace hp_:=zCO hq2 hp_;replace h:=zDe hq2 h;obtain ⟨A8,c8,A9,c9,rfl,rfl⟩:=hp_;refine .nm 8 rfl<|.b [0,6,7,8,9,10] rfl<|.a 3 rfl ?_;cases h
 replace hp_:=zCV hq2 hp_;replace h:=zCJ hq2 h;obtain ⟨g2,A10,c10,A11,c11,M1,rfl,rfl⟩:=hp_;refine .nm 10 rfl<|.b [0,6,7,8,9,10] rfl<|.a 3 rfl<|.asrt (fun _ w=>(w.sl [7] 0 rfl).meltL)<|.bd h fun r5 hr5 h=>.call (zAF (gb1:=g2) (gb2:=g1) hr5) zUf rfl rfl rfl (zd [8,5,9] [4,4,1,1,1] 0 rfl) ?_
 intro v_ F_ hp_
 rcases hq3:r5.2.2.1 with _ | q3
 ·replace hp_:=zCO hq3 hp_;replace h:=zDe hq3 h;obtain ⟨M2,A12,c12,A13,c13,rfl,rfl⟩:=hp_;refine .nm 10 rfl<|.bf [0,6,7,8,9,11,12] [] 2 rfl rfl<|.seq<|.seq<|.bd h fun o1 hj1 h=>.cu 0 [0,6,7,8,11, .s 41 (.bool o1)] [] rfl rfl ?_ ?_
  ·refine .region<|.n 3 rfl<|.gs 38 hj1 rfl (fun hj1=>?_) (fun hj1=>?_)
   ·cases hj1;exact .be rfl<|.hU rfl zw
   cases hj1;exact .be rfl<|.hU rfl zw
  refine .cb h rfl (fun h=>?_) (fun h=>?_)
  ·refine .abf [2,3,4,5] [4,4] 5 rfl rfl ?_;cases h
  refine .sk<|.pr [0,6,7,8,11] rfl<|.a 5 rfl<|.bd h fun r6 hr6 h=>.ct 10 [5,6,4] [5] 0 (zAH hr6) zUk rfl fun A21 c21 A22 c22=>.bf [2,3,4,5] [0,0,0,0,0,0,0] 2 rfl rfl ?_;cases h
 replace hp_:=zCV hq3 hp_;replace h:=zCJ hq3 h;obtain ⟨g3,M3,A14,c14,A15,c15,A16,c16,A17,c17,A18,c18,A19,c19,A20,c20,rfl,rfl⟩:=hp_;refine .nm 16 rfl<|.b [0,6,7,8,9,11,12] rfl<|.seq<|.seq<|.bd h fun o2 hj2 h=>.cu 0 [0,6,7,8,11, .s 41 (.bool o2)] [] rfl rfl ?_ ?_
 ·refine .region<|.n 3 rfl<|.gs 38 hj2 rfl (fun hj2=>?_) (fun hj2=>?_)
  ·cases hj2;exact .be rfl<|.hU rfl zw
  cases hj2;exact .be rfl<|.hU rfl zw
 refine .cb h rfl (fun h=>?_) (fun h=>?_)
 ·refine .abf [2,3,4,5] [12,12] 13 rfl rfl ?_;cases h
 refine .sk<|.pr [0,6,7,8,11] rfl<|.a 5 rfl<|.bd h fun r7 hr7 h=>.ct 18 [13,14,12] [13] 0 (zAH hr7) zUk rfl fun A23 c23 A24 c24=>.bf [2,3,4,5] [0,0,0,0,0,0,0,0,0,0,0,0,0,0,0] 2 rfl rfl ?_;cases h;exact .rv rfl rfl ⟨g1,g3,g2,A23,c23,A14,c14,A15,c15,A16,c16,A17,c17,A18,c18,A19,c19,A20,c20,A24,c24,A5,c5,M3,rfl,rfl⟩ (zk 15 7 [9,10,11,12,13,14] [1,8,8,8,8,8,1,5,5] 0 rfl)
theorem zVf:Ent Tryz.prog 171:=en Tryz.func171 (by kernel_rfl)
noncomputable def rH (d_p0:yW) (most:Int):Option (List Int):=
 bnd (uP d_p0) fun r1=>bif !r1 then (some ([])) else (bnd (yE (τ:=List Int) (fun (s1:List Int × Int)=>bif decide (s1.2<(d_p0.Have.length:Int)) then (bnd (elt d_p0.Have s1.2) fun x1=>bnd ((bif !x1 then (some (decide ((s1.1.length:Int)<most))) else (some false):Option Bool)) fun o2=>bif o2 then (bnd (app 8 s1.1 [s1.2]) fun l1=>some (.next (l1,IntKind.wrap .i64 (s1.2+1)))) else (some (.next (s1.1,IntKind.wrap .i64 (s1.2+1))))) else (some (.done s1.1))) ([],0)) fun o1=>some o1)
theorem zBL {d_p0 most A1 c1 A2 c2 r} (h:rH d_p0 most=some r):
    Fun Tryz.prog 171 [.agg (uR d_p0 A1 c1 A2 c2).toArray, .int .i64 most] [.ro (SlL yR A1 c1 d_p0.Have), .ro (SlL eu8 A2 c2 d_p0.Data)] (fun v F=>∃ A3 c3,v= .slice A3 r.length c3∧F= [.res (zM yC 3 A3 c3 r)]):=by
 refine Fun.intro Tryz.func171 rfl rfl rfl fun w R=>?_;refine .seq<|.region<|.box rfl rfl fun g1=>.b [1,2] rfl<|.seq<|.seq<|.region<|.lb 0 0 rfl<|.bd h fun r1 hr1 h=>.cv [1,2] (oS hr1) zIA rfl<|.b [1,2,10] rfl<|.cb h rfl (fun h=>?_) (fun h=>?_)
 ·refine .abf [4] [] 3 rfl rfl<|.asrt (fun _ w=>w.nilL yC 3) ?_;cases h;exact .rv rfl rfl ⟨none,0,rfl,rfl⟩ zw
 refine .sk<|.pr [1,2] rfl<|.ae rfl<|.seq<|.a 1 rfl<|.lb 2 0 rfl<|.bf [1,5,12,13,14] [1] 2 rfl rfl<|.asrt (fun _ w=>w.nilL yC 3)<|.bd h fun o1 hl1 h=>.cutK 2 (fun (e2:Option Addr × Nat)=>[.s 5 (.slice e2.1 o1.length e2.2)]) (fun e2=>[.res (zM yC 3 e2.1 e2.2 o1)]) rfl rfl ?_ ?_
 ·refine .block<|.loopQ hl1 1 (fun (s1:List Int × Int) (e1:Option Addr × Nat)=>[1, .s 5 (.slice e1.1 s1.1.length e1.2),12,13, .s 14 (.int .i64 s1.2)]) (fun s1 e1=>[.res (zM yC 3 e1.1 e1.2 s1.1)]) rfl rfl (none,0) (zb rfl) (fun _ w=>w) ?_;rintro s1 ⟨A3,c3⟩ st1 hm1 hd1 h1;refine .ae rfl<|.seq<|.cb h1 rfl (fun h1=>?_) (fun h1=>?_)
  ·refine .sk<|.pr [1,5,12,13,14] rfl<|.seq<|.block<|.a 1 rfl<|.bd h1 fun x1 hx1 h1=>.ix1 hx1 1 rfl fun b1 ob1=>.ld ob1 0 0 rfl<|.bf [1,5,6,7,12,13,14] [] 1 rfl rfl<|.seq<|.bd h1 fun o2 hj1 h1=>.cu 0 [1,5,6,12,13,14, .s 26 (.bool o2)] [] rfl rfl ?_ ?_
   ·refine .region<|.n 3 rfl<|.gs 21 hj1 rfl (fun hj1=>?_) (fun hj1=>?_)
    ·cases hj1;exact .be rfl<|.hU rfl zw
    cases hj1;exact .be rfl<|.hU rfl zw
   refine .cb h1 rfl (fun h1=>?_) (fun h1=>?_)
   ·refine .region<|.n 2 rfl<|.bS rfl fun g2=>.bd h1 fun l1 hl1 h1=>.app (E:=yC) hl1 rfl rfl rfl (.s .z) rfl rfl rfl rfl rfl rfl rfl rfl (eI (.head _) rfl rfl) rfl rfl fun A5 c5=>.p rfl rfl<|.done<|.blkN<|.thenN<|.pf [1,5,12,13,14] [0] 1 rfl rfl<|.region ?_;cases h1;exact .be rfl<|.ag (A5,c5) hm1 rfl zw
   refine .skip<|.blkN<|.thenN<|.pr [1,5,12,13,14] rfl<|.region ?_;cases h1;exact .be rfl<|.ag (A3,c3) hm1 rfl zw
  refine .xq rfl ?_;cases h1;cases hd1 _ rfl
  exact .thenN<|.hE (A3,c3) rfl (zl [0] 1 rfl)
 rintro ⟨A4,c4⟩;refine .ab [4] rfl ?_;cases h;exact .rv rfl rfl ⟨A4,c4,rfl,rfl⟩ zw
theorem zWF:Ent Tryz.prog 95:=en Tryz.func95 (by kernel_rfl)
noncomputable def sO (a_p0:zC) (most:Int):Option (List Int):=
 bif (a_p0.phase != 1) then (some ([])) else (bnd (rH a_p0.load most) fun r1=>some r1)
theorem bD {a_p0 most A1 c1 A2 c2 A3 c3 A4 c4 A5 c5 gb1 gb2 r} (h:sO a_p0 most=some r):
    Fun Tryz.prog 95 [.pointer (some ⟨gb1,0,none⟩), .int .i64 most] [.ro (SlL zP A2 c2 a_p0.needs), .ro (SlL yR A3 c3 a_p0.load.Have), .ro (SlL eu8 A4 c4 a_p0.load.Data), .ro (SlL yC A5 c5 a_p0.order), .res (Box gb1 144 (zI a_p0 gb2 A1 c1 A2 c2 A3 c3 A4 c4 A5 c5)), .res (xL (yL zF) 64 A1 c1 a_p0.devices)] (fun v F=>∃ A6 c6,v= .slice A6 r.length c6∧F= [.res (Box gb1 144 (zI a_p0 gb2 A1 c1 A2 c2 A3 c3 A4 c4 A5 c5)), .res (xL (yL zF) 64 A1 c1 a_p0.devices), .res (zM yC 3 A6 c6 r)]):=by
 refine Fun.intro Tryz.func95 rfl rfl rfl fun w R=>?_;refine .ab [0,1] rfl<|.seq<|.a 3 rfl<|.lb 3 4 rfl<|.b [0,1,9] rfl<|.cb h rfl (fun h=>?_) (fun h=>?_)
 ·refine .ab [4] rfl<|.asrt (fun _ w=>w.nilL yC 3) ?_;cases h;exact .rv rfl rfl ⟨none,0,rfl,rfl⟩ (zl [5,5,0] 4 rfl)
 refine .sk<|.pr [0,1] rfl<|.a 3 rfl<|.lb 4 4 rfl<|.p rfl rfl<|.bd h fun r1 hr1 h=>.cr 7 [1,2] [] 0 (zBL hr1) zVf rfl fun A6 c6=>.b [4] rfl ?_;cases h;exact .rv rfl rfl ⟨A6,c6,rfl,rfl⟩ (zl [5,5,0] 4 rfl)
theorem zWE:Ent Tryz.prog 39:=en Tryz.func39 (by kernel_rfl)
noncomputable def nC (a_p0:zC) (b_p1:(List Int)):Option (zC × Bool):=
 bnd (wG a_p0 (b_p1.length:Int) 64) fun r1=>bif (r1.2 != 0) then (some (r1.1,false)) else (bnd (yE (τ:=(zC × Bool) ⊕ zC) (fun (s1:zC × Int)=>bif decide ((IntKind.wrap .i64 (s1.2*64))<(b_p1.length:Int)) then (bnd (sub b_p1 (IntKind.wrap .i64 (s1.2*64)) (min (b_p1.length:Int) (IntKind.wrap .i64 ((IntKind.wrap .i64 (s1.2+1))*64)))) fun l1=>bnd (wZ s1.1 s1.2 l1) fun r2=>bif (r2.2 != 0) then (some (.done (.inl (r2.1,false)))) else (some (.next (r2.1,IntKind.wrap .i64 (s1.2+1))))) else (some (.done (.inr s1.1)))) (r1.1,0)) fun o1=>vB o1 fun o2=>bnd (sO o2 1) fun r3=>some (o2,((r3.length:Int)==0)))
theorem zIY {a_p0 b_p1 A1 c1 A2 c2 A3 c3 A4 c4 A5 c5 A6 c6 gb1 gb2 r} (h:nC a_p0 b_p1=some r):
    Fun Tryz.prog 39 [.pointer (some ⟨gb1,0,none⟩), .slice A6 b_p1.length c6] [.ro (SlL zP A2 c2 a_p0.needs), .ro (SlL yR A3 c3 a_p0.load.Have), .ro (SlL eu8 A4 c4 a_p0.load.Data), .ro (SlL yC A5 c5 a_p0.order), .ro (SlL eu8 A6 c6 b_p1), .ro (zBI 0 [(2,some 315),(3,some 316)]), .res (Box gb1 144 (zI a_p0 gb2 A1 c1 A2 c2 A3 c3 A4 c4 A5 c5)), .res (xL (yL zF) 64 A1 c1 a_p0.devices)] (fun v F=>∃ A7 c7 A8 c8 A9 c9 A10 c10 A11 c11,v= .bool r.2∧F= [.ro (SlL zP A8 c8 r.1.needs), .ro (SlL yR A9 c9 r.1.load.Have), .ro (SlL eu8 A10 c10 r.1.load.Data), .ro (SlL yC A11 c11 r.1.order), .res (Box gb1 144 (zI r.1 gb2 A7 c7 A8 c8 A9 c9 A10 c10 A11 c11)), .res (xL (yL zF) 64 A7 c7 r.1.devices)]):=by
 refine Fun.intro Tryz.func39 rfl rfl rfl fun w R=>?_;refine .ab [0,1] rfl<|.seq<|.a 3 rfl<|.bd h fun r1 hr1 h=>.call (jU (gb1:=gb1) hr1) zUu rfl rfl rfl (zd [2,3,4,5,7] [6,6] 0 rfl) ?_;rintro _ _ ⟨A7,c7,A8,c8,A9,c9,A10,c10,A11,c11,rfl,rfl⟩;refine .nm 12 rfl<|.bf [0,1,10] [0,0,0,0,0,0] 4 rfl rfl<|.cb h rfl (fun h=>?_) (fun h=>?_)
 ·refine .abf [4] [0,0,0,0,0,0] 1 rfl rfl ?_;cases h;exact .rv rfl rfl ⟨A7,c7,A8,c8,A9,c9,A10,c10,A11,c11,rfl,rfl⟩ (zk 6 5 [2,3,4,5] [4,4] 0 rfl)
 refine .sk<|.pr [0,1] rfl<|.seq<|.ae rfl<|.bd h fun o1 hl1 h=>.cutJ 7 (fun (o2:zC) (e2:Option Addr × Nat × Option Addr × Nat × Option Addr × Nat × Option Addr × Nat × Option Addr × Nat)=>[0]) (fun o2 e2=>[.ro (SlL yC e2.2.2.2.2.2.2.2.2.1 e2.2.2.2.2.2.2.2.2.2 o2.order), .ro (SlL eu8 e2.2.2.2.2.2.2.1 e2.2.2.2.2.2.2.2.1 o2.load.Data), .ro (SlL yR e2.2.2.2.2.1 e2.2.2.2.2.2.1 o2.load.Have), .ro (SlL zP e2.2.2.1 e2.2.2.2.1 o2.needs), .res (xL (yL zF) 64 e2.1 e2.2.1 o2.devices), .res (Box gb1 144 (zI o2 gb2 e2.1 e2.2.1 e2.2.2.1 e2.2.2.2.1 e2.2.2.2.2.1 e2.2.2.2.2.2.1 e2.2.2.2.2.2.2.1 e2.2.2.2.2.2.2.2.1 e2.2.2.2.2.2.2.2.2.1 e2.2.2.2.2.2.2.2.2.2))]) rfl rfl (fun o2=>o1= .inr o2) ?_ ?_
 ·refine .block<|.loopQ hl1 6 (fun (s1:zC × Int) (e1:Option Addr × Nat × Option Addr × Nat × Option Addr × Nat × Option Addr × Nat × Option Addr × Nat)=>[0,1, .s 5 (.int .i64 s1.2)]) (fun s1 e1=>[.ro (SlL yC e1.2.2.2.2.2.2.2.2.1 e1.2.2.2.2.2.2.2.2.2 s1.1.order), .ro (SlL eu8 e1.2.2.2.2.2.2.1 e1.2.2.2.2.2.2.2.1 s1.1.load.Data), .ro (SlL yR e1.2.2.2.2.1 e1.2.2.2.2.2.1 s1.1.load.Have), .ro (SlL zP e1.2.2.1 e1.2.2.2.1 s1.1.needs), .res (xL (yL zF) 64 e1.1 e1.2.1 s1.1.devices), .res (Box gb1 144 (zI s1.1 gb2 e1.1 e1.2.1 e1.2.2.1 e1.2.2.2.1 e1.2.2.2.2.1 e1.2.2.2.2.2.1 e1.2.2.2.2.2.2.1 e1.2.2.2.2.2.2.2.1 e1.2.2.2.2.2.2.2.2.1 e1.2.2.2.2.2.2.2.2.2))]) rfl rfl (A7,c7,A8,c8,A9,c9,A10,c10,A11,c11) (zb rfl) (zl [3,2,1,0,1] 0 rfl) ?_;rintro s1 ⟨A12,c12,A13,c13,A14,c14,A15,c15,A16,c16⟩ st1 hm1 hd1 h1;refine .seq<|.ab [0,1,5,15] rfl<|.cb h1 rfl (fun h1=>?_) (fun h1=>?_)
  ·refine .sk<|.pr [0,1,5] rfl<|.seq<|.block<|.a 11 rfl<|.bd h1 fun l1 hl1 h1=>.sub (E:=(cod eu8)) rfl rfl (zm 6 rfl) rfl rfl rfl rfl rfl rfl rfl hl1 fun A22 c22=>.bd h1 fun r2 hr2 h1=>.call (nM (gb1:=gb1) hr2) zRS rfl rfl rfl (zd [6,5,4,3,2] [6,5] 0 rfl) ?_;rintro _ _ ⟨A23,c23,A24,c24,A25,c25,A26,c26,A27,c27,rfl,rfl⟩;refine .nm 13 rfl<|.bf [0,1,5,31] [0,0,0,0,0,0] 5 rfl rfl<|.cb h1 rfl (fun h1=>?_) (fun h1=>?_)
   ·refine .abf [4] [0,0,0,0,0,0] 1 rfl rfl ?_;cases h1;cases hd1 _ rfl
    have h:some _=some _:=h;cases h;exact .rv rfl rfl ⟨A23,c23,A24,c24,A25,c25,A26,c26,A27,c27,rfl,rfl⟩ (zk 6 5 [2,3,4,5] [4,4] 0 rfl)
   refine .skip<|.blkN<|.thenN<|.pr [0,1,5] rfl<|.region ?_;cases h1;exact .be rfl<|.ag (A23,c23,A24,c24,A25,c25,A26,c26,A27,c27) hm1 rfl (zl [3,2,1,0,1] 0 rfl)
  refine .xq rfl ?_;cases h1;cases hd1 _ rfl
  exact .thenN<|.hereI s1.1 (A12,c12,A13,c13,A14,c14,A15,c15,A16,c16) rfl (zb rfl) (zl [0,0,0,0,0,0] 1 rfl)
 rintro o2 ⟨A17,c17,A18,c18,A19,c19,A20,c20,A21,c21⟩ ho;subst ho;have h:=unR h;refine .a 1 rfl<|.bd h fun r3 hr3 h=>.cr 8 [5,4,3,2] [5,4] 0 (bD (gb1:=gb1) hr3) zWF rfl fun A28 c28=>.bf [4] [0,0] 1 rfl rfl ?_;cases h;exact .rv rfl rfl ⟨A17,c17,A18,c18,A19,c19,A20,c20,A21,c21,rfl,rfl⟩ (zk 6 5 [5,4,3,2] [] 0 rfl)
end Go.Proofs.YtplchdlgdjcojaaGreatDoor
end
section
namespace Go.Proofs.YtplchdlgdjcojaaGreatDoor
open Go
set_option linter.unusedVariables false
set_option maxHeartbeats 4000000
set_option maxRecDepth 4000
noncomputable def oO (codes:(List Int)):Option Bool:=
 bnd (jB) fun r1=>bif !r1 then (some false) else (bnd (fN codes 200) fun r2=>bnd (jA r2) fun r3=>bnd (yV r3.2.2.1) fun r4=>bnd (nC r3.2.2.1 r3.2.2.2.1) fun r5=>bif !r5.2 then (some ((r3.2.2.2.1.length:Int)==0)) else (bnd (pD r3.2.2.2.1) fun r6=>bnd (app 40 ([]) r4) fun l1=>bnd (yE (τ:=List zH) (fun (s1:Int × List zH)=>bif decide (s1.1<(l1.length:Int)) then (bnd (elt s1.2 s1.1) fun x1=>bnd (rO r6.1 x1.Name) fun r7=>bnd ((bif decide (r7≥0) then (some (decide (r7<(r6.1.Images.length:Int)))) else (some false):Option Bool)) fun o2=>bif o2 then (bnd (elt r6.1.Images r7) fun x2=>bnd (elt s1.2 s1.1) fun x3=>bnd (sT s1.2 s1.1 (⟨x3.Name,x2.Version⟩:zH)) fun l2=>some (.next (IntKind.wrap .i64 (s1.1+1),l2))) else (some (.next (IntKind.wrap .i64 (s1.1+1),s1.2)))) else (some (.done s1.2))) (0,l1)) fun o1=>bnd (wQ (⟨r4,o1,r3.2.2.2.2.1⟩:yY)) fun r8=>bnd (xU r5.1 r3.2.2.2.2.2 r3.2.1) fun r9=>bif (r9.2.2.2 != 0) then (bnd ((bif (r6.2 != 0) then (some true) else (bif (r8.2==r9.2.2.2) then (some true) else (bif (r9.2.2.2==8) then (some true) else (some (r9.2.2.2==42)))):Option Bool)) fun o3=>some o3) else (bnd ((bif (r6.2 != 0) then (some true) else (some (r8.2 != 0)):Option Bool)) fun o4=>bif o4 then (some false) else (bnd (yE (τ:=Bool ⊕ (zA × zC × zD)) (fun (s2:zA × zC × zD × Int)=>bif decide (s2.2.2.2<(r8.1.length:Int)) then (bnd (elt r8.1 s2.2.2.2) fun x4=>bnd (yV s2.2.1) fun r10=>bnd (wO s2.2.1 true s2.2.2.1 s2.1) fun r11=>bnd (yV r11.1) fun r12=>bnd ((bif (r11.2.2.2.2 != 0) then (some true) else (bif (r11.2.2.2.1 != x4) then (some true) else (some ((r12.length:Int) != (r10.length:Int)))):Option Bool)) fun o7=>bif o7 then (some (.done (.inl false))) else (bnd (yE (τ:=Bool ⊕ Unit) (fun (s3:Int × List zH × List zH)=>bif decide (s3.1<(r12.length:Int)) then (bnd ((bnd (elt s3.2.2 s3.1) fun x5=>bnd (elt s3.2.1 s3.1) fun x6=>bif !((!((x5.Name.toList==x6.Name.toList)&&(((x5.Version.Major==x6.Version.Major)&&((x5.Version.Minor==x6.Version.Minor)&&((x5.Version.Patch==x6.Version.Patch)&&true)))&&true)))==(s3.1==r11.2.2.2.1)) then (some (s3.2.1,s3.2.2,true)) else (bif (s3.1==r11.2.2.2.1) then (bnd (elt o1 s3.1) fun x7=>some (s3.2.1,s3.2.2,!((x5.Name.toList==x7.Name.toList)&&(((x5.Version.Major==x7.Version.Major)&&((x5.Version.Minor==x7.Version.Minor)&&((x5.Version.Patch==x7.Version.Patch)&&true)))&&true)))) else (some (s3.2.1,s3.2.2,false))):Option (List zH × List zH × Bool))) fun o10=>bif o10.2.2 then (some (.done (.inl false))) else (some (.next (IntKind.wrap .i64 (s3.1+1),o10.1,o10.2.1)))) else (some (.done (.inr ())))) (0,r10,r12)) fun o8=>zJm (fun r_=>(.done (.inl r_))) o8 fun o9=>some (.next (r11.2.2.1,r11.1,r11.2.1,IntKind.wrap .i64 (s2.2.2.2+1))))) else (some (.done (.inr (s2.1,s2.2.1,s2.2.2.1))))) (r9.2.2.1,r9.1,r9.2.1,0)) fun o5=>vB o5 fun o6=>bnd (uU o6.2.1) fun r13=>some (r13==0)))))
theorem aO {codes A1 c1 r} (h:oO codes=some r):
    Fun Tryz.prog 5 [.slice A1 codes.length c1] [.ro (SlL eu8 A1 c1 codes), .ro (zBI 0 [(2,some 315),(3,some 316)])] (Val (.bool r)):=by
 refine Fun.intro Tryz.func5 rfl rfl rfl fun w R=>?_;refine .ab [0] rfl<|.seq<|.seq<|.region<|.bd h fun r1 hr1 h=>.cv [1] (zGk hr1) zWN rfl<|.b [0,24] rfl<|.cb h rfl (fun h=>?_) (fun h=>?_)
 ·refine .abf [2] [] 1 rfl rfl ?_;cases h;exact .rv rfl rfl ⟨rfl,rfl⟩ (zl [] 1 rfl)
 refine .sk<|.pr [0] rfl<|.a 1 rfl<|.bd h fun r2 hr2 h=>.call (zKP hr2) zWo rfl rfl rfl (zd [0] [] 0 rfl) ?_;rintro _ _ ⟨g1,A2,c2,rfl,rfl⟩;refine .nm 4 rfl<|.bd h fun r3 hr3 h=>.call (zGH hr3) zWK rfl rfl rfl (zd [1,3] [1] 0 rfl) ?_;rintro _ _ ⟨g2,g3,g4,A3,c3,A4,c4,A5,c5,A6,c6,A7,c7,A8,c8,A9,c9,A10,c10,A11,c11,A12,c12,M1,rfl,rfl⟩;refine .nm 18 rfl<|.bf [4,5,6] [1,1,1,1,1,2,2,2,2,2,2,2,2] 4 rfl rfl<|.seq<|.ab [4,5,6,34] rfl<|.condF rfl<|.sk<|.pr [4,5,6] rfl<|.a 1 rfl<|.bd h fun r4 hr4 h=>.cr 15 [2,3,4,5] [8,8] 0 (xY (gb1:=g3) hr4) zGi rfl fun A13 c13=>.b [4,5,6,7] rfl<|.seq<|.a 2 rfl<|.asrt (fun _ w=>(w.sl [11] 0 rfl).meltL)<|.bd h fun r5 hr5 h=>.call (zIY (gb1:=g3) hr5) zWE rfl rfl rfl (zd [4,5,6,7,2,14] [1,1] 0 rfl) ?_;rintro _ _ ⟨A14,c14,A15,c15,A16,c16,A17,c17,A18,c18,rfl,rfl⟩;refine .nm 19 rfl<|.bf [4,5,6,7,40] [0,0,0,0,0,0,0,0] 4 rfl rfl<|.cb h rfl (fun h=>?_) (fun h=>?_)
 ·refine .abf [2] [] 14 rfl rfl ?_;cases h;exact .rv rfl rfl ⟨rfl,rfl⟩ (zl [] 1 rfl)
 refine .sk<|.pr [4,5,6,7] rfl<|.a 1 rfl<|.bd h fun r6 hr6 h=>.ct 17 [6] [] 0 (cY hr6) zUd rfl fun A19 c19 A20 c20=>.n 3 rfl<|.alloc rfl rfl fun g5=>.sb 0 0 rfl<|.bf [4,6,7,8,9] [0,0,0,0,0,0,0,0,0] 1 rfl rfl<|.a 2 rfl<|.asrt (fun _ w=>(w.sl [9] 0 rfl).meltL)<|.asrt (fun _ w=>w.nilL zK 85)<|.bd h fun l1 hl1 h=>.app (E:=zK) hl1 rfl rfl rfl .z rfl rfl rfl rfl rfl rfl rfl rfl (iV (.tail _ (.head _))) rfl rfl fun A21 c21=>.n 2 rfl<|.alloc rfl rfl fun g6=>.sb 0 0 rfl<|.b [4,8,9,10] rfl<|.seq<|.a 1 rfl<|.lb 1 0 rfl<|.b [4,8,9,10,56,57] rfl<|.bd h fun o1 hl1 h=>.cutK 6 (fun (e2:Option Addr × Nat)=>[4,9,10]) (fun e2=>[.res (zM zK 85 e2.1 e2.2 o1), .res (Box g6 83 [.slice A13 r4.length c13, .slice e2.1 o1.length e2.2, .slice A12 r3.2.2.2.2.1.length c12]),2]) rfl rfl ?_ ?_
 ·refine .block<|.loopQ hl1 2 (fun (s1:Int × List zH) (e1:Option Addr × Nat)=>[4,8,9,10,56, .s 57 (.int .i64 s1.1)]) (fun s1 e1=>[.res (zM zK 85 e1.1 e1.2 s1.2), .res (Box g6 83 [.slice A13 r4.length c13, .slice e1.1 s1.2.length e1.2, .slice A12 r3.2.2.2.2.1.length c12])]) rfl rfl (A21,c21) (zb rfl) (zl [1] 0 rfl) ?_;rintro s1 ⟨A22,c22⟩ st1 hm1 hd1 h1;refine .ae rfl<|.seq<|.cb h1 rfl (fun h1=>?_) (fun h1=>?_)
  ·refine .sk<|.pr [4,8,9,10,56,57] rfl<|.seq<|.block<|.ab [4,8,9,10,11,56,57] rfl<|.seq<|.regionF mixed (by kernel_rfl)<|.lb 0 3 rfl<|.p rfl rfl<|.lb 1 1 rfl<|.p rfl rfl<|.bd h1 fun x1 hx1 h1=>.ix2 hx1 0 rfl fun g7 hA=>?_;subst hA;refine .p rfl rfl<|.ldO 0 hx1 rfl rfl (.head _) rfl rfl<|.bd h1 fun r7 hr7 h1=>.cv [4,5] (zAE hr7) zUt rfl<|.bq [4,8,9,10,11,12,56,57] rfl<|.seq<|.bd h1 fun o2 hj1 h1=>.cu 0 [4,8,9,10,11,12,56,57, .s 76 (.bool o2)] [] rfl rfl ?_ ?_
   ·refine .region<|.n 3 rfl<|.gs 70 hj1 rfl (fun hj1=>?_) (fun hj1=>?_)
    ·refine .n 2 rfl<|.gOn rfl rfl<|.lb 0 3 rfl ?_;cases hj1;exact .be rfl<|.hU rfl zw
    cases hj1;exact .be rfl<|.hU rfl zw
   refine .cb h1 rfl (fun h1=>?_) (fun h1=>?_)
   ·refine .bd h1 fun x2 hx2 h1=>.openN (zm 4 rfl) hx2 fun b1 ob1 ex1 hqb1=>?_;obtain ⟨⟨A24,c24⟩,_⟩:=ex1;refine .nm 21 rfl<|.regionX (iN [0,5,8,12,17,20,25,28,33,37,40,47] .nil) _ mixed (by kernel_rfl) (zl [0,0] 2 rfl)<|.yn 1 rfl<|.yx 1 3 rfl<|.yn 2 rfl<|.yx 0 5 rfl<|.yn 1 rfl<|.xfx (Rd.ixN hqb1 hx2 rfl rfl rfl rfl rfl rfl rfl) rfl<|.yn 1 rfl<|.xfx (Rd.load ob1 1 rfl (.head _) rfl rfl) rfl<|.bd h1 fun x3 hx3 h1=>.xfx (Rd.ixO (E:=zK) hx3 rfl rfl rfl rfl rfl rfl rfl) rfl<|.yn 1 rfl<|.xef<|.bd h1 fun l2 hl2 h1=>.stO 1 hx3 hl2 rfl rfl (.s (.s .z)) rfl rfl rfl rfl rfl ?_;refine .ss 78 (uZ hl2)<|.asrt (F':=.res (zM zK 85 (some ⟨g7,0,none⟩) c22 l2):: .ro (jR b1 ob1 (xD x2 A24 c24)):: .ro (SlL eu8 A24 c24 x2.Data):: .res (Box g6 83 [.slice A13 r4.length c13, .slice (some ⟨g7,0,none⟩) l2.length c22, .slice A12 r3.2.2.2.2.1.length c12]):: .ro (SlL zK A13 c13 r4):: .res (Box g5 46 [.slice A19 r6.1.Images.length c19, .slice A20 r6.1.Needs.length c20]):: .ro (Sl (yL yX) A19 c19 r6.1.Images):: .ro (SlL zP A20 c20 r6.1.Needs):: .ro (SlL zP A15 c15 r5.1.needs):: .ro (SlL yR A16 c16 r5.1.load.Have):: .ro (SlL eu8 A17 c17 r5.1.load.Data):: .ro (SlL yC A18 c18 r5.1.order):: .res (Box g3 144 (zI r5.1 g4 A14 c14 A15 c15 A16 c16 A17 c17 A18 c18)):: .res (xL (yL zF) 64 A14 c14 r5.1.devices):: .ro (SlL zP A12 c12 r3.2.2.2.2.1):: .res (Box g2 131 (zG r3.2.1 A4 c4 A5 c5)):: .res (zM eu8 5 A4 c4 r3.2.1.bytes):: .res (zM yC 3 A5 c5 r3.2.1.wear):: .res (Box g4 135 (zN r3.2.2.2.2.2 g2 M1)):: .res (yO (zZ .u8) (cod eu8) M1 r3.2.2.2.2.2.all):: .ro (zBI 0 [(2,some 315),(3,some 316)])::R) (fun _ w=>by rw [pE hl2]; exact w)<|.xk (zl [1,1] 2 rfl)<|.xdone<|.blkN<|.thenN<|.pf [4,8,9,10,56,57] [0] 2 rfl rfl<|.region ?_;cases h1;exact .be rfl<|.ag ((some ⟨g7,0,none⟩),c22) hm1 rfl zw
   refine .skip<|.blkN<|.thenN<|.pr [4,8,9,10,56,57] rfl<|.region ?_;cases h1;exact .be rfl<|.ag ((some ⟨g7,0,none⟩),c22) hm1 rfl zw
  refine .xq rfl ?_;cases h1;cases hd1 _ rfl
  exact .thenN<|.hE (A22,c22) rfl (zl [0,0,0] 3 rfl)
 rintro ⟨A23,c23⟩;refine .seq<|.region<|.lb 0 1 rfl<|.asrt (fun _ w=>w.meltL)<|.bd h fun r8 hr8 h=>.cr 17 [2,0,9] [] 0 (gH hr8) zUn rfl fun A25 c25=>.b [4,9,10,13,14] rfl<|.seq<|.a 1 rfl<|.bd h fun r9 hr9 h=>.call (kH (gb1:=g3) (gb2:=g4) (gb3:=g2) hr9) zUo rfl rfl rfl (zd [11,12,13,14] [8,8,12,12,9,9,9] 0 rfl) ?_;rintro _ _ ⟨A26,c26,A27,c27,A28,c28,A29,c29,A30,c30,M2,A31,c31,A32,c32,rfl,rfl⟩;refine .nm 21 rfl<|.bf [4,9,10,13,14,15] [0,0,0,0,0,0,0,0,0,0,0,0,0,0,0] 4 rfl rfl<|.ab [4,9,10,13,14,15,97] rfl<|.cb h rfl (fun h=>?_) (fun h=>?_)
 ·refine .seq<|.bd h fun o3 hj2 h=>.cu 16 [.s 2 (.bool o3)] [] rfl rfl ?_ ?_
  ·refine .region<|.n 3 rfl<|.gs 100 hj2 rfl (fun hj2=>?_) (fun hj2=>?_)
   ·cases hj2;exact .be rfl<|.hU rfl (zl [] 16 rfl)
   refine .n 5 rfl<|.gs 105 hj2 rfl (fun hj2=>?_) (fun hj2=>?_)
   ·cases hj2;exact .be rfl<|.hU rfl (zl [] 16 rfl)
   refine .n 4 rfl<|.gs 109 hj2 rfl (fun hj2=>?_) (fun hj2=>?_)
   ·cases hj2;exact .be rfl<|.hU rfl (zl [] 16 rfl)
   cases hj2;exact .be rfl<|.hU rfl (zl [] 16 rfl)
  cases h;exact .rv rfl rfl ⟨rfl,rfl⟩ (zl [] 1 rfl)
 refine .sk<|.pr [4,9,10,13,14] rfl<|.seq<|.seq<|.bd h fun o4 hj3 h=>.cu 0 [4,10,13, .s 118 (.bool o4)] [] rfl rfl ?_ ?_
 ·refine .region<|.n 3 rfl<|.gs 115 hj3 rfl (fun hj3=>?_) (fun hj3=>?_)
  ·cases hj3;exact .be rfl<|.hU rfl zw
  cases hj3;exact .be rfl<|.hU rfl zw
 refine .cb h rfl (fun h=>?_) (fun h=>?_)
 ·refine .abf [2] [] 16 rfl rfl ?_;cases h;exact .rv rfl rfl ⟨rfl,rfl⟩ (zl [] 1 rfl)
 refine .sk<|.pr [4,10,13] rfl<|.seq<|.ab [4,10,119,120,121] rfl<|.bd h fun o5 hl2 h=>.cutJ 16 (fun (o6:zA × zC × zD) (e7:Option Addr × Nat × Option Addr × Nat × Option Addr × Nat × Option Addr × Nat × Option Addr × Nat × Option Addr × Nat × Option Addr × Nat × Option Nat)=>[4]) (fun o6 e7=>[.res (yO (zZ .u8) (cod eu8) e7.2.2.2.2.2.2.2.2.2.2.2.2.2.2 o6.2.2.all), .ro (SlL yC e7.2.2.2.2.2.2.2.2.2.2.2.2.1 e7.2.2.2.2.2.2.2.2.2.2.2.2.2.1 o6.2.1.order), .ro (SlL eu8 e7.2.2.2.2.2.2.2.2.2.2.1 e7.2.2.2.2.2.2.2.2.2.2.2.1 o6.2.1.load.Data), .ro (SlL yR e7.2.2.2.2.2.2.2.2.1 e7.2.2.2.2.2.2.2.2.2.1 o6.2.1.load.Have), .ro (SlL zP e7.2.2.2.2.2.2.1 e7.2.2.2.2.2.2.2.1 o6.2.1.needs), .res (xL (yL zF) 64 e7.2.2.2.2.1 e7.2.2.2.2.2.1 o6.2.1.devices), .res (zM yC 3 e7.2.2.1 e7.2.2.2.1 o6.1.wear), .res (zM eu8 5 e7.1 e7.2.1 o6.1.bytes), .res (Box g3 144 (zI o6.2.1 g4 e7.2.2.2.2.1 e7.2.2.2.2.2.1 e7.2.2.2.2.2.2.1 e7.2.2.2.2.2.2.2.1 e7.2.2.2.2.2.2.2.2.1 e7.2.2.2.2.2.2.2.2.2.1 e7.2.2.2.2.2.2.2.2.2.2.1 e7.2.2.2.2.2.2.2.2.2.2.2.1 e7.2.2.2.2.2.2.2.2.2.2.2.2.1 e7.2.2.2.2.2.2.2.2.2.2.2.2.2.1)), .res (Box g4 135 (zN o6.2.2 g2 e7.2.2.2.2.2.2.2.2.2.2.2.2.2.2)), .res (Box g2 131 (zG o6.1 e7.1 e7.2.1 e7.2.2.1 e7.2.2.2.1))]) rfl rfl (fun o6=>o5= .inr o6) ?_ ?_
 ·refine .block<|.loopQ hl2 11 (fun (s2:zA × zC × zD × Int) (e6:Option Addr × Nat × Option Addr × Nat × Option Addr × Nat × Option Addr × Nat × Option Addr × Nat × Option Addr × Nat × Option Addr × Nat × Option Nat)=>[4,10,119,120, .s 121 (.int .i64 s2.2.2.2)]) (fun s2 e6=>[.res (yO (zZ .u8) (cod eu8) e6.2.2.2.2.2.2.2.2.2.2.2.2.2.2 s2.2.2.1.all), .ro (SlL yC e6.2.2.2.2.2.2.2.2.2.2.2.2.1 e6.2.2.2.2.2.2.2.2.2.2.2.2.2.1 s2.2.1.order), .ro (SlL eu8 e6.2.2.2.2.2.2.2.2.2.2.1 e6.2.2.2.2.2.2.2.2.2.2.2.1 s2.2.1.load.Data), .ro (SlL yR e6.2.2.2.2.2.2.2.2.1 e6.2.2.2.2.2.2.2.2.2.1 s2.2.1.load.Have), .ro (SlL zP e6.2.2.2.2.2.2.1 e6.2.2.2.2.2.2.2.1 s2.2.1.needs), .res (xL (yL zF) 64 e6.2.2.2.2.1 e6.2.2.2.2.2.1 s2.2.1.devices), .res (zM yC 3 e6.2.2.1 e6.2.2.2.1 s2.1.wear), .res (zM eu8 5 e6.1 e6.2.1 s2.1.bytes), .res (Box g3 144 (zI s2.2.1 g4 e6.2.2.2.2.1 e6.2.2.2.2.2.1 e6.2.2.2.2.2.2.1 e6.2.2.2.2.2.2.2.1 e6.2.2.2.2.2.2.2.2.1 e6.2.2.2.2.2.2.2.2.2.1 e6.2.2.2.2.2.2.2.2.2.2.1 e6.2.2.2.2.2.2.2.2.2.2.2.1 e6.2.2.2.2.2.2.2.2.2.2.2.2.1 e6.2.2.2.2.2.2.2.2.2.2.2.2.2.1)), .res (Box g4 135 (zN s2.2.2.1 g2 e6.2.2.2.2.2.2.2.2.2.2.2.2.2.2)), .res (Box g2 131 (zG s2.1 e6.1 e6.2.1 e6.2.2.1 e6.2.2.2.1))]) rfl rfl (A31,c31,A32,c32,A26,c26,A27,c27,A28,c28,A29,c29,A30,c30,M2) (zb rfl) (zl [7,3,2,1,0,1,4,3] 0 rfl) ?_;rintro s2 ⟨A33,c33,A34,c34,A35,c35,A36,c36,A37,c37,A38,c38,A39,c39,M3⟩ st2 hm2 hd2 h2;refine .ae rfl<|.seq<|.cb h2 rfl (fun h2=>?_) (fun h2=>?_)
  ·refine .sk<|.pr [4,10,119,120,121] rfl<|.seq<|.block<|.seq<|.region<|.bd h2 fun x4 hx4 h2=>.ix2 hx4 11 rfl fun g9 hA=>?_;subst hA;refine .ldO 0 hx4 rfl rfl (zm 11 rfl) rfl rfl<|.b [4,10,17,119,120,121] rfl<|.a 1 rfl<|.bd h2 fun r10 hr10 h2=>.cr 18 [6,5,4,3] [8,5] 0 (xY (gb1:=g3) hr10) zGi rfl fun A47 c47=>.b [4,10,17,18,119,120,121] rfl<|.a 1 rfl<|.bd h2 fun r11 hr11 h2=>.call (nJ (gb1:=g3) (gb2:=g4) (gb3:=g2) hr11) zRh rfl rfl rfl (zd [11,10,9,8,17] [0,0,8,1,7,6,5] 0 rfl) ?_;rintro _ _ ⟨A48,c48,A49,c49,A50,c50,A51,c51,A52,c52,M5,A53,c53,A54,c54,rfl,rfl⟩;refine .nm 22 rfl<|.bf [4,10,17,18,19,20,119,120,121] [0,0,0,0,0,0,0,0,0,0,0,0] 4 rfl rfl<|.a 1 rfl<|.bd h2 fun r12 hr12 h2=>.cr 19 [2,3,4,5] [4,4] 0 (xY (gb1:=g3) hr12) zGi rfl fun A55 c55=>.b [4,10,17,18,19,20,21,119,120,121] rfl<|.seq<|.seq<|.bd h2 fun o7 hj4 h2=>.cu 0 [4,10,18,19,21,119,120,121, .s 147 (.bool o7)] [] rfl rfl ?_ ?_
   ·refine .region<|.n 3 rfl<|.gs 136 hj4 rfl (fun hj4=>?_) (fun hj4=>?_)
    ·cases hj4;exact .be rfl<|.hU rfl zw
    refine .n 5 rfl<|.gs 141 hj4 rfl (fun hj4=>?_) (fun hj4=>?_)
    ·cases hj4;exact .be rfl<|.hU rfl zw
    cases hj4;exact .be rfl<|.hU rfl zw
   refine .cb h2 rfl (fun h2=>?_) (fun h2=>?_)
   ·refine .abf [2] [] 18 rfl rfl ?_;cases h2;cases hd2 _ rfl
    have h:some _=some _:=h;cases h;exact .rv rfl rfl ⟨rfl,rfl⟩ (zl [] 1 rfl)
   refine .sk<|.pr [4,10,18,19,21,119,120,121] rfl<|.ab [4,10,18,19,21,119,120,121,149,150] rfl<|.bd h2 fun o8 hl3 h2=>.selfThen<|.cutJ 13 (fun (o9:Unit) (e10:Unit)=>[4,10,119,120,121]) (fun o9 e10=>[0,1,3,4,5,6,7,8,9,10,11]) rfl rfl (fun o9=>o8= .inr o9) ?_ ?_
   ·refine .block<|.loopQ hl3 13 (fun (s3:Int × List zH × List zH) (e9:Option Addr × Nat × Option Addr × Nat)=>[4,10, .s 18 (.slice e9.1 s3.2.1.length e9.2.1),19, .s 21 (.slice e9.2.2.1 s3.2.2.length e9.2.2.2),119,120,121,149, .s 150 (.int .i64 s3.1)]) (fun s3 e9=>[.res (zM zK 85 e9.2.2.1 e9.2.2.2 s3.2.2), .res (zM zK 85 e9.1 e9.2.1 s3.2.1),0,1,3,4,5,6,7,8,9,10,11]) rfl rfl (A47,c47,A55,c55) (zb rfl) (zl [2,11] 0 rfl) ?_;rintro s3 ⟨A56,c56,A57,c57⟩ st3 hm3 hd3 h3;refine .ae rfl<|.seq<|.cb h3 rfl (fun h3=>?_) (fun h3=>?_)
    ·refine .sk<|.pr [4,10,18,19,21,119,120,121,149,150] rfl<|.seq<|.block<|.ab [4,10,18,19,21,22,119,120,121,149,150] rfl<|.seq<|.bd h3 fun o10 hj5 h3=>.cutK 2 (fun (e11:Option Addr × Nat × Option Addr × Nat)=>[4,10, .s 18 (.slice e11.1 o10.1.length e11.2.1),19, .s 21 (.slice e11.2.2.1 o10.2.1.length e11.2.2.2),119,120,121,149,150, .s 182 (.bool o10.2.2)]) (fun e11=>[.res (zM zK 85 e11.2.2.1 e11.2.2.2 o10.2.1), .res (zM zK 85 e11.1 e11.2.1 o10.1)]) rfl rfl ?_ ?_
     ·refine .regionF mixed (by kernel_rfl)<|.n 2 rfl<|.bd hj5 fun x5 hx5 hj5=>.ix2 hx5 0 rfl fun g10 hA=>?_;subst hA;refine .ldO 0 hx5 rfl rfl (.head _) rfl rfl<|.n 2 rfl<|.bd hj5 fun x6 hx6 hj5=>.ix2 hx6 1 rfl fun g11 hA=>?_;subst hA;refine .ldO 0 hx6 rfl rfl (.tail _ (.head _)) rfl rfl<|.n 6 rfl<|.gs 166 hj5 rfl (fun hj5=>?_) (fun hj5=>?_)
      ·cases hj5;exact .beq rfl<|.hE ((some ⟨g11,0,none⟩),c56,(some ⟨g10,0,none⟩),c57) rfl zw
      refine .n 4 rfl<|.gs 170 hj5 rfl (fun hj5=>?_) (fun hj5=>?_)
      ·refine .n 2 rfl<|.gOn rfl rfl<|.ix2 hx5 0 rfl fun g12 hA=>?_;cases hA;refine .gOn rfl rfl<|.ldO 0 hx5 rfl rfl (.head _) rfl rfl<|.n 1 rfl<|.gOn rfl rfl<|.lb 1 15 rfl<|.n 1 rfl<|.gOn rfl rfl<|.bd hj5 fun x7 hx7 hj5=>.ix1 hx7 14 rfl fun b2 ob2=>.gOn rfl rfl<|.ld ob2 0 0 rfl ?_;cases hj5;exact .beq rfl<|.hE ((some ⟨g11,0,none⟩),c56,(some ⟨g10,0,none⟩),c57) rfl (zl [] 1 rfl)
      cases hj5;exact .beq rfl<|.hE ((some ⟨g11,0,none⟩),c56,(some ⟨g10,0,none⟩),c57) rfl zw
     rintro ⟨A58,c58,A59,c59⟩;refine .cb h3 rfl (fun h3=>?_) (fun h3=>?_)
     ·refine .abf [2] [] 18 rfl rfl ?_;cases h3;cases hd3 _ rfl
      have h2:some _=some _:=h2;cases h2;cases hd2 _ rfl
      have h:some _=some _:=h;cases h;exact .rv rfl rfl ⟨rfl,rfl⟩ (zl [] 1 rfl)
     refine .skip<|.blkN<|.thenN<|.pr [4,10,18,19,21,119,120,121,149,150] rfl<|.region ?_;cases h3;exact .be rfl<|.ag (A58,c58,A59,c59) hm3 rfl zw
    refine .xq rfl ?_;cases h3;cases hd3 _ rfl
    exact .thenN<|.hereI () () rfl (zb rfl) (zl [] 2 rfl)
   rintro o9 e10 ho;subst ho;have h2:=zXk h2;refine .blkN<|.thenN<|.region ?_;cases h2;exact .be rfl<|.ag (A53,c53,A54,c54,A48,c48,A49,c49,A50,c50,A51,c51,A52,c52,M5) hm2 rfl (zl [7,5,4,3,2,1,4,3] 0 rfl)
  refine .xq rfl ?_;cases h2;cases hd2 _ rfl
  exact .thenN<|.hereI (s2.1,s2.2.1,s2.2.2.1) (A33,c33,A34,c34,A35,c35,A36,c36,A37,c37,A38,c38,A39,c39,M3) rfl (zb rfl) (zl [0,0,0,0,0,0,0,0,0,0,0] 5 rfl)
 rintro o6 ⟨A40,c40,A41,c41,A42,c42,A43,c43,A44,c44,A45,c45,A46,c46,M4⟩ ho;subst ho;have h:=unR h;refine .a 1 rfl<|.bd h fun r13 hr13 h=>.cq 12 [6,5,4,3] [8,5] 0 (jM (gb1:=g3) hr13) zUa rfl<|.bf [2] [] 11 rfl rfl ?_;cases h;exact .rv rfl rfl ⟨rfl,rfl⟩ (zl [] 1 rfl)
end Go.Proofs.YtplchdlgdjcojaaGreatDoor
end
section
namespace Go.Proofs.YtplchdlgdjcojaaGreatDoor
open Go
set_option linter.unusedSimpArgs false
set_option linter.unusedVariables false
def rng (l:List Int):Prop:=∀ x∈l,0≤x∧x≤255
theorem rng.nil:rng []:=fun x h=>by cases h
theorem rng.app {l m:List Int} (h:rng l) (k:rng m):rng (l++m):=fun x hx=>by
 rcases List.mem_append.1 hx with hx | hx
 ·exact h x hx
 ·exact k x hx
theorem rng.cons {x:Int} {l:List Int} (h:0≤x∧x≤255) (k:rng l):rng (x::l):=fun y hy=>by
 rcases List.mem_cons.1 hy with rfl | hy
 ·exact h
 ·exact k y hy
theorem rng.sub {l m:List Int} (h:rng l) (k:∀ x∈m,x∈l):rng m:=fun x hx=>h x (k x hx)
theorem rng.take {l:List Int} (h:rng l) (n:Nat):rng (l.take n):=h.sub fun _ hx=>List.mem_of_mem_take hx
theorem rng.drop {l:List Int} (h:rng l) (n:Nat):rng (l.drop n):=h.sub fun _ hx=>List.mem_of_mem_drop hx
theorem rng.set {l:List Int} (h:rng l) (n:Nat) {v:Int} (hv:0≤v∧v≤255):rng (l.set n v):=fun x hx=>by
 rcases List.mem_or_eq_of_mem_set hx with hx | hx
 ·exact h x hx
 ·subst hx; exact hv
theorem rng.get {l:List Int} (h:rng l) (i:Nat):0≤l.getD i 0∧l.getD i 0≤255:=by
 rw [List.getD_eq_getElem?_getD]
 cases hi:l[i]? with
 | none=>exact ⟨Int.le_refl 0,by decide⟩
 | some x=>exact h x (List.mem_of_getElem? hi)
theorem rng.rep {n:Nat} {v:Int} (hv:0≤v∧v≤255):rng (List.replicate n v):=fun x hx=>by
 obtain ⟨_,rfl⟩:=List.mem_replicate.1 hx
 exact hv
theorem sJ {x:Int} (h:0≤x∧x≤255):∃ n:Nat,n<256∧x=(n:Int):=⟨x.toNat,by omega,by omega⟩
theorem zRQ {x y:Int} (hx:0≤x∧x≤255) (hy:0≤y∧y≤255):0≤rA .u8 x y∧rA .u8 x y≤255:=by
 obtain ⟨a,ha,rfl⟩:=sJ hx
 obtain ⟨b,hb,rfl⟩:=sJ hy
 rw [zJf ha hb]
 have:=Nat.and_lt_two_pow (n:=8) a (y:=b) hb
 omega
theorem zPw {x y:Int} (hx:0≤x∧x≤255) (hy:0≤y∧y≤255):0≤iOr .u8 x y∧iOr .u8 x y≤255:=by
 obtain ⟨a,ha,rfl⟩:=sJ hx
 obtain ⟨b,hb,rfl⟩:=sJ hy
 rw [zCQ ha hb]
 have:=Nat.or_lt_two_pow (n:=8) ha hb
 omega
theorem zPT {x:Int} (hx:0≤x∧x≤255):rA .u8 255 x=x:=by
 obtain ⟨a,ha,rfl⟩:=sJ hx
 have:(255:Int)=((255:Nat):Int):=rfl
 rw [this,zJf (by decide) ha,Nat.and_comm]
 have e:a&&&255=a % 2 ^ 8:=Nat.and_two_pow_sub_one_eq_mod a 8
 rw [e]
 omega
theorem zWD {x:Int} (hx:0≤x∧x≤255):iOr .u8 x 255=255:=by
 obtain ⟨a,ha,rfl⟩:=sJ hx
 have:(255:Int)=((255:Nat):Int):=rfl
 rw [this,zCQ ha (by decide)]
 have h:∀ a:Fin 256,a.val|||255=255:=by decide+kernel
 rw [h ⟨a,ha⟩]
theorem or_zero {x y:Int} (hx:0≤x∧x≤255) (hy:0≤y∧y≤255):iOr .u8 x y=0↔x=0∧y=0:=by
 obtain ⟨a,ha,rfl⟩:=sJ hx
 obtain ⟨b,hb,rfl⟩:=sJ hy
 rw [zCQ ha hb]
 have:=@Nat.or_eq_zero_iff a b
 omega
theorem zVA {x:Int} (hx:0≤x∧x≤255):iOr .u8 x 0=x:=by
 obtain ⟨a,ha,rfl⟩:=sJ hx
 have:(0:Int)=((0:Nat):Int):=rfl
 rw [this,zCQ ha (by decide),Nat.or_zero]
structure OkD (d:zA):Prop where
 size:64≤d.size∧d.size≤1024
 wear:1≤d.wear.length∧d.wear.length≤16
 len:(d.bytes.length:Int)=d.wear.length*d.size
 rng:rng d.bytes
 torn:0≤d.torn∧d.torn≤255
 left:0≤d.left∧d.left≤9223372036854775807
theorem OkD.bound {d:zA} (h:OkD d):d.bytes.length≤16384:=by
 have h1:=h.len
 have h2:=h.size
 have h3:=h.wear
 have:(d.wear.length:Int)*d.size≤16*1024:=Int.mul_le_mul (by omega) (by omega) (by omega) (by omega)
 omega
def xI (d:zA):zA × Bool:=
 if 0<d.left then (⟨d.size,d.bytes,d.wear,IntKind.wrap .i64 (d.steps+1),d.left - 1,d.torn,d.left - 1==0⟩,d.left - 1==0)
 else (⟨d.size,d.bytes,d.wear,IntKind.wrap .i64 (d.steps+1),d.left,d.torn,d.down⟩,d.down)
theorem zNV {d:zA} (h:OkD d):wW d=some (xI d):=by
 unfold wW xI
 by_cases hl:0<d.left
 ·rw [xF (by simpa using hl),if_pos hl,yP (x:=d.left - 1) (by have:=h.left; omega) (by have:=h.left; omega)]
 ·rw [yS (by simpa using hl),if_neg hl]
theorem vA (d:zA):(xI d).1.bytes=d.bytes:=by unfold xI; split <;> rfl
theorem kQ (d:zA):(xI d).1.size=d.size:=by unfold xI; split <;> rfl
theorem gS (d:zA):(xI d).1.wear=d.wear:=by unfold xI; split <;> rfl
theorem oP (d:zA):(xI d).1.torn=d.torn:=by unfold xI; split <;> rfl
theorem zBj {d:zA} (h:d.down=false):(xI d).1.down=(xI d).2:=by unfold xI; split <;> rfl
theorem dI {d:zA} (h:OkD d):OkD (xI d).1:=by
 refine ⟨by rw [kQ]; exact h.size,by rw [gS]; exact h.wear,by rw [vA,gS,kQ]; exact h.len,by rw [vA]; exact h.rng,by rw [oP]; exact h.torn,?_⟩
 have:=h.left
 unfold xI
 split <;> simp only <;> omega
def wrB (d:zA) (i:Nat) (v:Int):zA:=⟨d.size,d.bytes.set i v,d.wear,d.steps,d.left,d.torn,d.down⟩
theorem zIe {d:zA} (h:OkD d) (i:Nat) {v:Int} (hv:0≤v∧v≤255):OkD (wrB d i v):=
 ⟨h.size,h.wear,by show ((d.bytes.set i v).length:Int)=_; rw [List.length_set]; exact h.len,h.rng.set i hv,h.torn,h.left⟩
def pK:zA→Nat→List Int→zA × Int
 | d,_, []=>(d,0)
 | d,i,x::b=>
  if (xI d).2 then (wrB (xI d).1 i (rA .u8 (d.bytes.getD i 0) (iOr .u8 x d.torn)),10)
  else pK (wrB (xI d).1 i (rA .u8 (d.bytes.getD i 0) x)) (i+1) b
theorem zKE:∀ (b:List Int) (d:zA) (i:Nat),OkD d→rng b→OkD (pK d i b).1∧(pK d i b).1.size=d.size∧(pK d i b).1.wear=d.wear∧(pK d i b).1.bytes.length=d.bytes.length∧(pK d i b).1.torn=d.torn
 | [],d,i,h,_=>⟨h,rfl,rfl,rfl,rfl⟩
 | x::b,d,i,h,hb=>by
  have hx:=hb x (by simp)
  unfold pK
  split
  ·exact ⟨zIe (dI h) i (zRQ (h.rng.get i) (zPw hx h.torn)),kQ d,gS d,by simp [wrB,vA],oP d⟩
  ·obtain ⟨h1,h2,h3,h4,h5⟩:=zKE b (wrB (xI d).1 i (rA .u8 (d.bytes.getD i 0) x)) (i+1) (zIe (dI h) i (zRQ (h.rng.get i) hx)) (fun y hy=>hb y (by simp [hy]))
   exact ⟨h1,h2.trans (kQ d),h3.trans (gS d),by rw [h4]; simp [wrB,vA],h5.trans (oP d)⟩
theorem bP {l:List Int} {i:Nat} (h:i<l.length):elt l (i:Int)=some (l.getD i 0):=by
 rw [elt_nat,List.getD_eq_getElem?_getD,List.getElem?_eq_getElem h]
 rfl
theorem nN {α:Type} {l:List α} {i:Nat} (h:i<l.length) (v:α):sT l (i:Int) v=some (l.set i v):=by
 unfold sT
 rw [if_pos ⟨by omega,by omega⟩]
 simp
theorem zGO {d:zA} (h:OkD d) (at_ n:Int) (ha1: -4611686018427387904≤at_):uN d at_ n=some (decide (0≤at_∧at_≤d.bytes.length∧0≤n∧n≤d.bytes.length - at_)):=by
 have hb:=h.bound
 unfold uN
 by_cases h1:at_≥0
 ·rw [xF (by simpa using h1)]
  by_cases h2:at_≤(d.bytes.length:Int)
  ·rw [xF (by simpa using h2)]
   by_cases h3:n≥0
   ·rw [xF (by simpa using h3),bnd_some,yP (by omega) (by omega)]
    congr 1
    rw [decide_eq_decide]
    omega
   ·rw [yS (by simpa using h3),bnd_some]
    congr 1
    symm
    rw [decide_eq_false_iff_not]
    omega
  ·rw [yS (by simpa using h2),bnd_some]
   congr 1
   symm
   rw [decide_eq_false_iff_not]
   omega
 ·rw [yS (by simpa using h1),bnd_some]
  congr 1
  symm
  rw [decide_eq_false_iff_not]
  omega
noncomputable def aE (at_p1:Int) (b_p2:List Int):zA × Int→Option (sQ (zA × Int) ((zA × Int) ⊕ zA)):=
 (fun (s1:zA × Int)=>bif decide (s1.2<(b_p2.length:Int)) then (bnd (elt b_p2 s1.2) fun x1=>bnd (wW s1.1) fun r2=>bif r2.2 then (bnd (elt r2.1.bytes (IntKind.wrap .i64 (at_p1+s1.2))) fun x2=>bnd (elt r2.1.bytes (IntKind.wrap .i64 (at_p1+s1.2))) fun x3=>bnd (elt r2.1.bytes (IntKind.wrap .i64 (at_p1+s1.2))) fun x4=>bnd (sT r2.1.bytes (IntKind.wrap .i64 (at_p1+s1.2)) (rA .u8 x3 (iOr .u8 x1 r2.1.torn))) fun l1=>some (.done (.inl ((⟨r2.1.size,l1,r2.1.wear,r2.1.steps,r2.1.left,r2.1.torn,r2.1.down⟩:zA),10)))) else (bnd (elt r2.1.bytes (IntKind.wrap .i64 (at_p1+s1.2))) fun x5=>bnd (sT r2.1.bytes (IntKind.wrap .i64 (at_p1+s1.2)) (rA .u8 x5 x1)) fun l2=>some (.next ((⟨r2.1.size,l2,r2.1.wear,r2.1.steps,r2.1.left,r2.1.torn,r2.1.down⟩:zA),IntKind.wrap .i64 (s1.2+1))))) else (some (.done (.inr s1.1))))
def zEi (r:zA × Int):(zA × Int) ⊕ zA:=if r.2=0 then .inr r.1 else .inl r
theorem zHP (at_:Nat) (b:List Int) (hr:rng b):∀ (rest:List Int) (j:Nat) (d:zA),OkD d→b.drop j=rest→j+rest.length=b.length→at_+b.length≤d.bytes.length→
  yE (aE (at_:Int) b) (d,(j:Int))=some (zEi (pK d (at_+j) rest))
 | [],j,d,hd,h1,h2,h3=>by
  refine xM ?_
  unfold aE
  simp only [List.length_nil] at h2
  rw [yS (by simp; omega)]
  rfl
 | x::rest,j,d,hd,h1,h2,h3=>by
  have hb:=hd.bound
  simp only [List.length_cons] at h2
  have hj:j<b.length:=by omega
  have hx:b[j]=x:=by
   have:=List.getElem_cons_drop (h:=hj)
   rw [h1] at this
   exact (List.cons.inj this).1
  have hrest:b.drop (j+1)=rest:=by
   have:=List.getElem_cons_drop (h:=hj)
   rw [h1] at this
   exact (List.cons.inj this).2
  have hxr:=hr x (by rw [←hx]; exact List.getElem_mem hj)
  have hi:at_+j<(xI d).1.bytes.length:=by rw [vA]; omega
  have hw:IntKind.wrap .i64 ((at_:Int)+(j:Int))=((at_+j:Nat):Int):=by rw [yP (by omega) (by omega)]; omega
  have hstep:aE (at_:Int) b (d,(j:Int))=some (if (xI d).2 then .done (.inl (wrB (xI d).1 (at_+j) (rA .u8 (d.bytes.getD (at_+j) 0) (iOr .u8 x d.torn)),10)) else .next (wrB (xI d).1 (at_+j) (rA .u8 (d.bytes.getD (at_+j) 0) x),((j+1:Nat):Int))):=by
   unfold aE
   simp only
   rw [xF (by simp; omega),yT hj,bnd_some,hx,zNV hd,bnd_some]
   cases hf:(xI d).2
   ·rw [cond_false,hw,bP hi,bnd_some,nN hi,bnd_some,zR hj (by omega),vA,if_neg (by decide)]
    simp only [wrB,vA]
   ·rw [cond_true,hw,bP hi,bnd_some,bnd_some,bnd_some,nN hi,bnd_some,vA,oP,if_pos rfl]
    simp only [wrB,vA,oP]
  cases hf:(xI d).2
  ·rw [hf] at hstep
   refine tD hstep ?_
   have:=zHP at_ b hr rest (j+1) (wrB (xI d).1 (at_+j) (rA .u8 (d.bytes.getD (at_+j) 0) x)) (zIe (dI hd) _ (zRQ (hd.rng.get _) hxr)) hrest (by omega) (by simp [wrB,vA]; omega)
   rw [this]
   conv=>rhs; unfold pK
   rw [if_neg (by rw [hf]; decide)]
   rfl
  ·rw [hf] at hstep
   rw [xM hstep]
   conv=>rhs; unfold pK
   rw [if_pos hf]
   simp only [zEi]
   rw [if_neg (by decide)]
theorem zCR:∀ (b:List Int) (d:zA) (i:Nat),(pK d i b).2=0∨(pK d i b).2=10
 | [],d,i=>.inl rfl
 | x::b,d,i=>by
  unfold pK
  split
  ·exact .inr rfl
  ·exact zCR b _ _
theorem zLg (r:zA × Int) (h:r.2=0∨r.2=10):(vB (zEi r) fun o2=>some (o2,0))=some r:=by
 unfold zEi
 rcases h with h | h
 ·rw [if_pos h,retOr_inr,←h]
 ·rw [if_neg (by rw [h]; decide),retOr_inl]
def zY (d:zA) (at_:Int) (b:List Int):zA × Int:=
 if d.down then (d,10) else if 0≤at_∧at_≤d.bytes.length∧0≤(b.length:Int)∧(b.length:Int)≤d.bytes.length - at_ then pK d at_.toNat b else (d,2)
theorem dT {d:zA} (h:OkD d) {b:List Int} (hb:rng b) (at_:Int) (ha1: -4611686018427387904≤at_):wH d at_ b=some (zY d at_ b):=by
 unfold wH zY
 cases hd:d.down
 ·rw [cond_false,zGO h at_ _ ha1,bnd_some]
  by_cases hw:0≤at_∧at_≤d.bytes.length∧0≤(b.length:Int)∧(b.length:Int)≤d.bytes.length - at_
  ·rw [if_neg (by simp),if_pos hw,yS (by simp only [hw,decide_true]; rfl)]
   have:=zHP at_.toNat b hb b 0 d h rfl (by omega) (by omega)
   have e:((at_.toNat:Nat):Int)=at_:=by omega
   rw [e] at this
   unfold aE at this
   exact yD this (zLg _ (zCR b d _))
  ·rw [if_neg (by simp),if_neg hw,xF (by rw [decide_eq_false hw]; rfl)]
 ·rw [cond_true,if_pos rfl]
theorem zKM {d:zA} (h:OkD d) {b:List Int} (hb:rng b) (at_:Int):OkD (zY d at_ b).1∧(zY d at_ b).1.size=d.size∧(zY d at_ b).1.wear=d.wear∧(zY d at_ b).1.bytes.length=d.bytes.length∧(zY d at_ b).1.torn=d.torn:=by
 unfold zY
 split
 ·exact ⟨h,rfl,rfl,rfl,rfl⟩
 ·split
  ·exact zKE b d _ h hb
  ·exact ⟨h,rfl,rfl,rfl,rfl⟩
theorem lF {b:List Int} (h:b.length≤1000000):zQ b=some b:=by
 unfold zQ
 rw [tB (by simp; omega) (by simp; omega),bnd_some]
 rfl
def zNx (d:zA) (at_ n:Int):List Int × Int:=
 if d.down then ([],10) else if 0≤at_∧at_≤d.bytes.length∧0≤n∧n≤d.bytes.length - at_ then ((d.bytes.drop at_.toNat).take n.toNat,0) else ([],2)
theorem zND {d:zA} (h:OkD d) (at_ n:Int) (ha1: -4611686018427387904≤at_):uD d at_ n=some (d,zNx d at_ n):=by
 have hb:=h.bound
 unfold uD zNx
 cases hd:d.down
 ·rw [cond_false,zGO h at_ _ ha1,bnd_some]
  by_cases hw:0≤at_∧at_≤d.bytes.length∧0≤n∧n≤d.bytes.length - at_
  ·rw [if_neg (by simp),if_pos hw,yS (by simp only [hw,decide_true]; rfl),yP (by omega) (by omega)]
   obtain ⟨a,rfl⟩:∃ a:Nat,at_=(a:Int):=⟨at_.toNat,by omega⟩
   obtain ⟨k,rfl⟩:∃ k:Nat,n=(k:Int):=⟨n.toNat,by omega⟩
   have h1:mU d.bytes.length (a:Int) ((a:Int)+(k:Int))=some k:=by
    unfold mU
    rw [if_pos ⟨by omega,by omega,by omega⟩]
    congr 1
    omega
   have h2:Go.Proofs.YtplchdlgdjcojaaGreatDoor.sub d.bytes (((a:Int).toNat:Nat):Int) (((a:Int).toNat+k:Nat):Int)=some ((d.bytes.take (a+k)).drop a):=by
    unfold Go.Proofs.YtplchdlgdjcojaaGreatDoor.sub
    rw [if_pos ⟨by omega,by omega,by omega⟩]
    congr 2
   rw [h1,bnd_some,h2,bnd_some,lF (by simp; omega),bnd_some]
   congr 3
   rw [List.take_drop,show (a:Int).toNat+(k:Int).toNat=a+k by omega]
   rfl
  ·rw [if_neg (by simp),if_neg hw,xF (by rw [decide_eq_false hw]; rfl)]
 ·rw [cond_true,if_pos rfl]
def orP (l:List Int) (lo n:Nat) (v:Int):List Int:=l.take lo++((l.drop lo).take n).map (fun x=>iOr .u8 x v)++l.drop (lo+n)
theorem zNi (l:List Int) (lo n:Nat) (v:Int) (h:lo+n≤l.length):(orP l lo n v).length=l.length:=by
 simp only [orP,List.length_append,List.length_take,List.length_map,List.length_drop]
 omega
theorem zTP {l:List Int} (h:rng l) (lo n:Nat) {v:Int} (hv:0≤v∧v≤255):rng (orP l lo n v):=by
 refine ((h.take lo).app fun x hx=>?_).app (h.drop _)
 obtain ⟨y,hy,rfl⟩:=List.mem_map.1 hx
 exact zPw (((h.drop lo).take n) y hy) hv
theorem zRa (l:List Int) (lo:Nat) (v:Int):orP l lo 0 v=l:=by simp [orP]
theorem zRK {l:List Int} {lo n:Nat} (v:Int) (h:lo+n<l.length):(orP l lo n v).set (lo+n) (iOr .u8 (l.getD (lo+n) 0) v)=orP l lo (n+1) v:=by
 unfold orP
 have h1:(l.take lo++((l.drop lo).take n).map (fun x=>iOr .u8 x v)).length=lo+n:=by
  simp only [List.length_append,List.length_take,List.length_map,List.length_drop]; omega
 have h2:l.drop (lo+n)=l[lo+n]::l.drop (lo+(n+1)):=(List.getElem_cons_drop (h:=h)).symm
 have h3:(l.drop lo).take (n+1)=(l.drop lo).take n++ [l[lo+n]]:=by
  rw [xC (by simp; omega)]
  simp
 rw [List.set_append_right _ _ (by omega),h1,Nat.sub_self,h2,List.set_cons_zero,h3,List.map_append,List.getD_eq_getElem?_getD,List.getElem?_eq_getElem h]
 simp
theorem zSF {l:List Int} {lo n:Nat} (v:Int) (h:lo+n<l.length):(orP l lo n v).getD (lo+n) 0=l.getD (lo+n) 0:=by
 unfold orP
 have h1:(l.take lo++((l.drop lo).take n).map (fun x=>iOr .u8 x v)).length=lo+n:=by
  simp only [List.length_append,List.length_take,List.length_map,List.length_drop]; omega
 rw [List.getD_eq_getElem?_getD,List.getD_eq_getElem?_getD,List.getElem?_append_right (by omega),h1,Nat.sub_self,List.getElem?_drop]
 simp
def wrW (d:zA) (i:Nat):zA:=⟨d.size,d.bytes,d.wear.set i (IntKind.wrap .i64 (d.wear.getD i 0+1)),d.steps,d.left,d.torn,d.down⟩
def wrA (d:zA) (b:List Int):zA:=⟨d.size,b,d.wear,d.steps,d.left,d.torn,d.down⟩
def tL (d:zA) (s:Int):zA × Int:=
 if d.down then (d,10) else if s<0∨s≥d.wear.length then (d,2) else
  (wrA (xI (wrW d s.toNat)).1 (orP d.bytes (s.toNat*d.size.toNat) d.size.toNat (if (xI (wrW d s.toNat)).2 then d.torn else 255)),if (xI (wrW d s.toNat)).2 then 10 else 0)
theorem zMm {d:zA} (h:OkD d) (i:Nat):OkD (wrW d i):=
 ⟨h.size,by show 1≤(d.wear.set _ _).length∧(d.wear.set _ _).length≤16; rw [List.length_set]; exact h.wear,by show (d.bytes.length:Int)=((d.wear.set _ _).length:Int)*_; rw [List.length_set]; exact h.len,h.rng,h.torn,h.left⟩
theorem zVs {d:zA} (h:OkD d) {b:List Int} (hl:b.length=d.bytes.length) (hr:rng b):OkD (wrA d b):=
 ⟨h.size,h.wear,by show (b.length:Int)=_; rw [hl]; exact h.len,hr,h.torn,h.left⟩
theorem tJ {d:zA} (h:OkD d) {k:Nat} (hk:k<d.wear.length):k*d.size.toNat+d.size.toNat≤d.bytes.length:=by
 have h1:=h.len
 have h2:=h.size
 obtain ⟨z,hz⟩:∃ z:Nat,d.size=(z:Int):=⟨d.size.toNat,by omega⟩
 rw [hz] at h1 ⊢
 have h3:d.bytes.length=d.wear.length*z:=by exact_mod_cast h1
 have h4:(k+1)*z≤d.wear.length*z:=Nat.mul_le_mul_right _ (by omega)
 rw [Nat.add_mul,Nat.one_mul] at h4
 show k*z+z≤_
 omega
theorem zSq {d:zA} (h:OkD d) (s:Int) (hs:s≤4611686018427387904):rL d s=some (tL d s):=by
 have hb:=h.bound
 unfold rL tL
 cases hd:d.down
 ·rw [cond_false,if_neg (by simp)]
  by_cases hs0:s<0
  ·rw [xF (by simpa using hs0),bnd_some,cond_true,if_pos (.inl hs0)]
  ·rw [yS (by simpa using hs0),bnd_some]
   by_cases hs1:s≥d.wear.length
   ·rw [xF (by simpa using hs1),if_pos (.inr hs1)]
   ·rw [yS (by simpa using hs1),if_neg (by omega)]
    obtain ⟨k,rfl⟩:∃ k:Nat,s=(k:Int):=⟨s.toNat,by omega⟩
    have hk:k<d.wear.length:=by omega
    have hk16:=h.wear
    have hok:=dI (zMm h k)
    have hst:wW (⟨d.size,d.bytes,d.wear.set k (IntKind.wrap .i64 (d.wear.getD k 0+1)),d.steps,d.left,d.torn,false⟩:zA)=some (xI (wrW d k)):=by rw [←zNV (zMm h k)]; simp only [wrW,hd]
    rw [bP hk,bnd_some,nN hk,bnd_some,hst,bnd_some]
    have hz:=h.size
    obtain ⟨z,hzz⟩:∃ z:Nat,d.size=(z:Int):=⟨d.size.toNat,by omega⟩
    have hsz:(xI (wrW d k)).1.size=(z:Int):=(kQ _).trans hzz
    have hby:(xI (wrW d k)).1.bytes=d.bytes:=vA _
    have hse:=tJ h hk
    rw [hzz] at hse
    have hkz:k*z≤16384:=by
     have:((z:Int)).toNat=z:=rfl
     rw [this] at hse
     omega
    have hse':k*z+z≤d.bytes.length:=hse
    have e1:IntKind.wrap .i64 ((k:Int)*(z:Int))=((k*z:Nat):Int):=by
     have:(k:Int)*(z:Int)=((k*z:Nat):Int):=by simp
     rw [this,yU (by omega)]
    have e2:IntKind.wrap .i64 (IntKind.wrap .i64 ((k:Int)+1)*(z:Int))=((k*z+z:Nat):Int):=by
     rw [yP (x:=(k:Int)+1) (by omega) (by omega)]
     have:((k:Int)+1)*(z:Int)=((k*z+z:Nat):Int):=by simp [Int.add_mul]
     rw [this,yU (by omega)]
    simp only [hsz,hby,e1,e2]
    have hpm:mU d.bytes.length ((k*z:Nat):Int) ((k*z+z:Nat):Int)=some z:=by
     unfold mU
     rw [if_pos ⟨by omega,by omega,by omega⟩]
     congr 1
     omega
    have ho:(bif (xI (wrW d k)).2 then some (xI (wrW d k)).1.torn else some 255)=some (if (xI (wrW d k)).2 then d.torn else 255):=by
     rw [oP]
     cases (xI (wrW d k)).2 <;> rfl
    rw [ho,bnd_some,hpm,bnd_some]
    generalize hv:(if (xI (wrW d k)).2=true then d.torn else 255)=v
    have hvr:0≤v∧v≤255:=by rw [←hv]; split; exact h.torn; decide
    have e3:(((k*z:Nat):Int)).toNat=k*z:=rfl
    rw [e3]
    refine wE (fun j=>(wrA (xI (wrW d k)).1 (orP d.bytes (k*z) j v),(j:Int))) z (wrA (xI (wrW d k)).1 (orP d.bytes (k*z) z v)) ?_ (fun j hj=>?_) ?_ ?_
    ·rw [zRa,←hby]; rfl
    ·have hlt:k*z+j<d.bytes.length:=by omega
     have hlt2:k*z+j<(orP d.bytes (k*z) j v).length:=by rw [zNi _ _ _ _ (by omega)]; exact hlt
     have hel:zIt (orP d.bytes (k*z) j v) (k*z) z (j:Int)=some (d.bytes.getD (k*z+j) 0):=by
      unfold zIt
      rw [if_pos ⟨by omega,by omega⟩]
      have:((k*z:Nat):Int)+(j:Int)=((k*z+j:Nat):Int):=by omega
      rw [this,bP hlt2,zSF v hlt]
     have hse2:sT (orP d.bytes (k*z) j v) (((k*z:Nat):Int)+(j:Int)) (iOr .u8 (d.bytes.getD (k*z+j) 0) v)=some (orP d.bytes (k*z) (j+1) v):=by
      have:((k*z:Nat):Int)+(j:Int)=((k*z+j:Nat):Int):=by omega
      rw [this,nN hlt2,zRK v hlt]
     simp only [wrA]
     rw [xF (by simp; omega),hel,bnd_some,bnd_some,hse2,bnd_some,zR hj (by omega)]
    ·simp only
     rw [yS (by simp)]
    ·have e4:((z:Int)).toNat=z:=rfl
     have e5:((k:Int)).toNat=k:=rfl
     rw [hzz]
     simp only [e4,e5]
     cases hf:(xI (wrW d k)).2
     ·rw [hf] at hv
      rw [cond_false,←hv]
      rfl
     ·rw [hf] at hv
      rw [cond_true,←hv]
      rfl
 ·rw [cond_true,if_pos rfl]
theorem zHE {d:zA} (h:OkD d) (s:Int):OkD (tL d s).1∧(tL d s).1.size=d.size∧(tL d s).1.wear.length=d.wear.length∧(tL d s).1.bytes.length=d.bytes.length∧(tL d s).1.torn=d.torn:=by
 unfold tL
 split
 ·exact ⟨h,rfl,rfl,rfl,rfl⟩
 ·split
  ·exact ⟨h,rfl,rfl,rfl,rfl⟩
  ·rename_i hs
   have hk:s.toNat<d.wear.length:=by omega
   have hse:=tJ h hk
   have hl:=zNi d.bytes (s.toNat*d.size.toNat) d.size.toNat (if (xI (wrW d s.toNat)).2 then d.torn else 255) hse
   have hvr:0≤(if (xI (wrW d s.toNat)).2 then d.torn else 255)∧(if (xI (wrW d s.toNat)).2 then d.torn else 255)≤255:=by split; exact h.torn; decide
   refine ⟨zVs (dI (zMm h _)) ?_ (zTP h.rng _ _ hvr),kQ _,?_,hl,oP _⟩
   ·rw [vA]; exact hl
   ·show (xI (wrW d s.toNat)).1.wear.length=_
    rw [gS]
    simp [wrW]
def zFZ (d:zA):zA:=⟨d.size,d.bytes,d.wear,d.steps,0,d.torn,false⟩
end Go.Proofs.YtplchdlgdjcojaaGreatDoor
end
section
namespace Go.Proofs.YtplchdlgdjcojaaGreatDoor
open Go
set_option linter.unusedVariables false
set_option linter.unusedSimpArgs false
def xT (n:Nat):Nat:=(n+63) / 64
def dl (b:List Int) (k:Nat):yW:=⟨(b.length:Int),64,List.replicate k true++List.replicate (xT b.length - k) false,b.take (64*k)++List.replicate (b.length - 64*k) 0⟩
def zAz (b:List Int) (k:Nat):List Int:=(b.take (min (64*k+64) b.length)).drop (64*k)
theorem dS (b:List Int) (k:Nat):(dl b k).Data.length=b.length:=by
 simp only [dl,List.length_append,List.length_take,List.length_replicate]; omega
theorem zJd (b:List Int) {k:Nat} (h:k≤xT b.length):(dl b k).Have.length=xT b.length:=by
 simp only [dl,List.length_append,List.length_replicate]; omega
theorem zJu {n:Nat} (h1:1≤n) (h2:n≤8192):vT (n:Int) 64=some true:=by
 unfold vT
 rw [decide_eq_true (by omega:(n:Int)≥1),cond_true,decide_eq_true (by omega:(n:Int)≤8192)]
 rfl
theorem zOT {n:Nat} (h:n=0∨8192<n):vT (n:Int) 64=some false:=by
 unfold vT
 rcases h with rfl | h
 ·rfl
 ·rw [decide_eq_true (by omega:(n:Int)≥1),cond_true,decide_eq_false (by omega:¬ (n:Int)≤8192)]
  rfl
theorem zLn {n:Nat} (h2:n≤8192):sC (n:Int) 64=some (xT n:Int):=by
 unfold sC
 rw [show ((n:Int)+64)=((n+64:Nat):Int) by omega,yU (by omega),show (((n+64:Nat):Int) - 1)=((n+63:Nat):Int) by omega,yU (by omega)]
 unfold zOQ
 rw [if_neg (by omega),bnd_some,show (64:Int)=((64:Nat):Int) from rfl,zRy,yU (by omega)]
 rfl
theorem zPU {b:List Int} (h1:1≤b.length) (h2:b.length≤8192):sI (b.length:Int) 64=some (dl b 0,0):=by
 unfold sI
 have hc:xT b.length≤200:=by unfold xT; omega
 rw [zJu h1 h2,bnd_some,Bool.not_true,cond_false,zLn h2,bnd_some]
 have e1:mkS 1 false (xT b.length:Int) (xT b.length:Int)=some (List.replicate (xT b.length) false):=by
  unfold mkS
  rw [if_pos ⟨by omega,by omega,by omega,by omega⟩]
  simp
 have e2:mkS 1 (0:Int) (b.length:Int) (b.length:Int)=some (List.replicate b.length 0):=by
  unfold mkS
  rw [if_pos ⟨by omega,by omega,by omega,by omega⟩]
  simp
 rw [e1,bnd_some,e2,bnd_some]
 simp [dl]
theorem zQH {n:Nat} (h:n=0∨8192<n):sI (n:Int) 64=some (⟨0,0, [], []⟩,2):=by
 unfold sI
 rw [zOT h,bnd_some]
 rfl
theorem zKm (D:yW) {n i:Nat} (hz:D.Size=(n:Int)) (hp:D.Part=64) (hl:D.Data.length=n) (h2:n≤8192) (hi:i<xT n):
  sA D (i:Int)=some ((D.Data.take (min (64*i+64) n)).drop (64*i)):=by
 unfold sA
 have hc:64*i<n:=by unfold xT at hi; omega
 rw [hp,hz,show ((i:Int)*64)=((64*i:Nat):Int) by omega,yU (by omega),show (((64*i:Nat):Int)+64)=((64*i+64:Nat):Int) by omega,yU (by omega)]
 have hm:min ((64*i+64:Nat):Int) (n:Int)=((min (64*i+64) n:Nat):Int):=by omega
 rw [hm]
 unfold sub
 rw [if_pos ⟨by omega,by omega,by omega⟩,bnd_some,Int.toNat_natCast,Int.toNat_natCast]
theorem zTF {l:List Int} (h:∀ x∈l,x=0) (hl:l.length≤1000000):xR l=some false:=by
 unfold xR vM
 refine yD (a:= -1) ?_ rfl
 refine wE (fun i=>(i:Int)) l.length (.inr ()) rfl (fun i hi=>?_) ?_ rfl
 ·have hx:=h _ (List.getElem_mem hi)
  rw [decide_eq_true (by omega:(i:Int)<(l.length:Int)),cond_true,yT hi,bnd_some,hx]
  unfold qX
  rw [bnd_some,zR hi (by omega)]
  rfl
 ·rw [decide_eq_false (by omega:¬ (l.length:Int)<(l.length:Int))]
  rfl
theorem zQS {b:List Int} {k i:Nat} (hk:k≤i):∀ x∈((dl b k).Data.take (min (64*i+64) b.length)).drop (64*i),x=0:=by
 intro x hx
 have hd:((dl b k).Data.take (min (64*i+64) b.length)).drop (64*i)=((List.replicate (b.length - 64*k) (0:Int)).take (min (64*i+64) b.length - (b.take (64*k)).length)).drop (64*i - ((b.take (64*k)).take (min (64*i+64) b.length)).length):=by
  simp only [dl]
  rw [List.take_append,List.drop_append,List.drop_eq_nil_of_le,List.nil_append]
  simp only [List.length_take]; omega
 rw [hd] at hx
 exact List.eq_of_mem_replicate (List.mem_of_mem_take (List.mem_of_mem_drop hx))
theorem zBv {b:List Int} {k i:Nat} (hk:k≤xT b.length) (hi:i<xT b.length):elt (dl b k).Have (i:Int)=some (decide (i<k)):=by
 rw [elt_nat]
 simp only [dl]
 by_cases h:i<k
 ·rw [List.getElem?_append_left (by simpa using h),List.getElem?_replicate_of_lt h,decide_eq_true h]
 ·rw [List.getElem?_append_right (by simpa using h),List.length_replicate,List.getElem?_replicate_of_lt (by omega),decide_eq_false h]
theorem zIP {b:List Int} {k:Nat} (h1:1≤b.length) (h2:b.length≤8192) (hk:k≤xT b.length):uP (dl b k)=some true:=by
 unfold uP
 have hc:xT b.length≤200:=by unfold xT; omega
 have hh:=zJd b hk
 refine yD (a:=false) ?_ ?_
 ·show bnd (vT (b.length:Int) 64) _=_
  rw [zJu h1 h2,bnd_some,Bool.not_true,cond_false]
  show bnd (sC (b.length:Int) 64) _=_
  rw [zLn h2,bnd_some,hh,dS]
  simp only [bne_self_eq_false,cond_false]
  show some ((b.length:Int) != (b.length:Int))=_
  simp
 rw [cond_false,hh]
 refine wE (fun i=>(i:Int)) (xT b.length) (.inr ()) rfl (fun i hi=>?_) ?_ rfl
 ·rw [decide_eq_true (by omega:(i:Int)<(xT b.length:Int)),cond_true,zBv hk hi,bnd_some]
  refine yD (a:=false) ?_ ?_
  ·by_cases h:i<k
   ·rw [decide_eq_true h]; rfl
   ·rw [decide_eq_false h,Bool.not_false,cond_true,zKm (dl b k) rfl rfl (dS b k) h2 hi,bnd_some,zTF (zQS (by omega)) (by rw [List.length_drop,List.length_take,dS]; omega),bnd_some]
  ·rw [cond_false,zR hi (by omega)]
 ·rw [decide_eq_false (by omega:¬ (xT b.length:Int)<(xT b.length:Int))]
  rfl
theorem zLO {l:List Bool} (h:l.length≤1000000):wV l=some l:=by
 unfold wV
 rw [tB (by simp; omega) (by simp; omega),bnd_some]
 simp
theorem zNd {b:List Int} {k:Nat} (h:k<xT b.length):(zAz b k).length=min 64 (b.length - 64*k):=by
 unfold zAz xT at*
 simp only [List.length_drop,List.length_take]; omega
theorem zSf {b:List Int} {k:Nat} (hk:k<xT b.length):((dl b k).Have).set k true=(dl b (k+1)).Have:=by
 apply List.ext_getElem?
 intro j
 simp only [dl,List.getElem?_set,List.getElem?_append,List.getElem?_replicate,List.length_append,List.length_replicate]
 by_cases h1:k=j
 ·subst h1
  simp; omega
 ·by_cases h2:j<k
  ·simp [h1,h2,show j<k+1 by omega]
  ·simp only [h1,h2,show ¬ j<k+1 by omega,if_false]
   by_cases h3:j<xT b.length
   ·rw [if_pos (by omega),if_pos (by omega)]
   ·rw [if_neg (by omega),if_neg (by omega)]
theorem zRZ {b:List Int} {k:Nat} (hk:k<xT b.length):(dl b k).Data.take (64*k)++(zAz b k).take (min (zAz b k).length (min 64 (b.length - 64*k)))++(dl b k).Data.drop (64*k+min (zAz b k).length (min 64 (b.length - 64*k)))=(dl b (k+1)).Data:=by
 have hl:=zNd hk
 have hc:64*k<b.length:=by unfold xT at hk; omega
 have hA:(b.take (64*k)).length=64*k:=by rw [List.length_take]; omega
 have e1:(dl b k).Data.take (64*k)=b.take (64*k):=by
  simp only [dl]
  rw [List.take_append_of_le_length (by omega),List.take_take,Nat.min_self]
 have e2:(dl b k).Data.drop (64*k+min 64 (b.length - 64*k))=List.replicate (b.length - 64*(k+1)) 0:=by
  simp only [dl]
  rw [List.drop_append,List.drop_eq_nil_of_le (by omega),List.nil_append,hA,List.drop_replicate]
  congr 1
  omega
 have e3:(zAz b k).take (min 64 (b.length - 64*k))=zAz b k:=List.take_of_length_le (by omega)
 rw [hl,Nat.min_self,e1,e2,e3]
 have e4:b.take (64*k)++zAz b k=b.take (64*(k+1)):=by
  unfold zAz
  have h5:=List.take_append_drop (64*k) (b.take (min (64*k+64) b.length))
  rw [List.take_take,show min (64*k) (min (64*k+64) b.length)=64*k by omega] at h5
  rw [h5]
  by_cases h6:64*k+64≤b.length
  ·rw [show min (64*k+64) b.length=64*(k+1) by omega]
  ·rw [show min (64*k+64) b.length=b.length by omega,List.take_length,List.take_of_length_le (by omega)]
 rw [e4]
 rfl
theorem zTI {b:List Int} {k:Nat} (h1:1≤b.length) (h2:b.length≤8192) (hk:k<xT b.length):rJ (dl b k) (k:Int) (zAz b k)=some (dl b (k+1),0):=by
 unfold rJ
 have hc:xT b.length≤200:=by unfold xT; omega
 have h64:64*k<b.length:=by unfold xT at hk; omega
 have hh:=zJd b (Nat.le_of_lt hk)
 have hsl:=zNd hk
 rw [zIP h1 h2 (by omega),bnd_some,Bool.not_true,cond_false,decide_eq_false (by omega:¬ (k:Int)<0),cond_false,bnd_some,hh,decide_eq_false (by omega:¬ (k:Int)≥(xT b.length:Int)),cond_false]
 rw [zKm (dl b k) rfl rfl (dS b k) h2 hk,bnd_some]
 have hpl:(((dl b k).Data.take (min (64*k+64) b.length)).drop (64*k)).length=(zAz b k).length:=by
  rw [hsl,List.length_drop,List.length_take,dS]; omega
 rw [hpl,show (((zAz b k).length:Int) != ((zAz b k).length:Int))=false by simp,cond_false]
 refine yD (a:=false) ?_ ?_
 ·rw [zBv (by omega) hk,bnd_some,decide_eq_false (by omega)]
  rfl
 rw [cond_false,zLO (by omega),bnd_some,lF (by rw [dS]; omega),bnd_some,zBv (by omega) hk,bnd_some]
 have hs:sT (dl b k).Have (k:Int) true=some ((dl b (k+1)).Have):=by
  rw [nN (by omega),zSf hk]
 rw [hs,bnd_some]
 have hp0:rZ (⟨(dl b k).Size,(dl b k).Part,(dl b (k+1)).Have,(dl b k).Data⟩:yW) (k:Int)=some (64*k,min 64 (b.length - 64*k)):=by
  unfold rZ
  simp only
  have e1:(dl b k).Part=64:=rfl
  have e2:(dl b k).Size=(b.length:Int):=rfl
  rw [e1,e2,dS,show ((k:Int)*64)=((64*k:Nat):Int) by omega,yU (by omega),show (((64*k:Nat):Int)+64)=((64*k+64:Nat):Int) by omega,yU (by omega)]
  unfold mU
  rw [if_pos ⟨by omega,by omega,by omega⟩,bnd_some]
  congr 2
  omega
 rw [hp0,bnd_some]
 have hcp:jX (dl b k).Data (64*k) (min 64 (b.length - 64*k)) (zAz b k)=some ((dl b (k+1)).Data):=by
  unfold jX
  rw [if_pos (by rw [dS]; omega)]
  have:=zRZ hk
  rw [hsl,Nat.min_self] at this ⊢
  rw [this]
 simp only
 rw [hcp,bnd_some]
 rfl
theorem zQb {l:List Bool} {k m:Nat} (h:l=List.replicate k true++List.replicate m false) (hl:k+m≤1000000):vH l false=some (decide (0<m)):=by
 unfold vH sR
 have hlen:l.length=k+m:=by rw [h]; simp
 have hg:∀ i,i<k+m→elt l (i:Int)=some (decide (i<k)):=fun i hi=>by
  rw [elt_nat,h]
  by_cases hk:i<k
  ·rw [List.getElem?_append_left (by simpa using hk),List.getElem?_replicate_of_lt hk,decide_eq_true hk]
  ·rw [List.getElem?_append_right (by simpa using hk),List.length_replicate,List.getElem?_replicate_of_lt (by omega),decide_eq_false hk]
 by_cases hm:0<m
 ·refine yD (a:=(k:Int)) ?_ (by rw [decide_eq_true (by omega:(k:Int)≥0),decide_eq_true hm])
  refine yD (a:=.inl (k:Int)) ?_ rfl
  refine qJ (fun i=>(i:Int)) k (fun i hi=>?_) ?_
  ·rw [hlen,decide_eq_true (by omega:(i:Int)<((k+m:Nat):Int)),cond_true,hg i (by omega),bnd_some,decide_eq_true hi,zR hi (by omega)]
   rfl
  ·rw [hlen,decide_eq_true (by omega:(k:Int)<((k+m:Nat):Int)),cond_true,hg k (by omega),bnd_some,decide_eq_false (by omega)]
   rfl
 ·refine yD (a:= -1) ?_ (by rw [decide_eq_false (by omega:¬ 0<m)]; rfl)
  refine wE (fun i=>(i:Int)) (k+m) (.inr ()) rfl (fun i hi=>?_) ?_ rfl
  ·rw [hlen,decide_eq_true (by omega:(i:Int)<((k+m:Nat):Int)),cond_true,hg i hi,bnd_some,decide_eq_true (by omega),zR hi (by omega)]
   rfl
  ·rw [hlen,decide_eq_false (by omega:¬ ((k+m:Nat):Int)<((k+m:Nat):Int))]
   rfl
theorem zHp {b:List Int} {k:Nat} (h1:1≤b.length) (h2:b.length≤8192) (hk:k≤xT b.length):wP (dl b k)=some (decide (k=xT b.length)):=by
 unfold wP
 have hc:xT b.length≤200:=by unfold xT; omega
 rw [zIP h1 h2 hk,bnd_some,cond_true,zQb (l:=(dl b k).Have) (k:=k) (m:=xT b.length - k) rfl (by omega),bnd_some,bnd_some]
 congr 1
 by_cases h:k=xT b.length
 ·rw [decide_eq_true h,decide_eq_false (by omega)]; rfl
 ·rw [decide_eq_false h,decide_eq_true (by omega)]; rfl
theorem zSW (b:List Int):(dl b (xT b.length)).Data=b:=by
 simp only [dl]
 have:b.length≤64*xT b.length:=by unfold xT; omega
 rw [List.take_of_length_le this,show b.length - 64*xT b.length=0 by omega]
 simp
theorem zWd {b:List Int} (h1:1≤b.length) (h2:b.length≤8192):sD (dl b (xT b.length))=some (b,0):=by
 unfold sD
 rw [zIP h1 h2 (Nat.le_refl _),bnd_some,Bool.not_true,cond_false,zHp h1 h2 (Nat.le_refl _),bnd_some,decide_eq_true rfl,Bool.not_true,cond_false,lF (by rw [dS]; omega),bnd_some,zSW]
theorem zSP {b:List Int} (h1:1≤b.length) (h2:b.length≤8192) (m:Int):rH (dl b (xT b.length)) m=some []:=by
 unfold rH
 have hc:xT b.length≤200:=by unfold xT; omega
 rw [zIP h1 h2 (Nat.le_refl _),bnd_some,Bool.not_true,cond_false,zJd b (Nat.le_refl _)]
 refine wE (fun i=>([],(i:Int))) (xT b.length) [] rfl (fun i hi=>?_) ?_ rfl
 ·simp only
  rw [decide_eq_true (by omega:(i:Int)<(xT b.length:Int)),cond_true,zBv (Nat.le_refl _) hi,bnd_some,decide_eq_true hi,Bool.not_true,cond_false,bnd_some,cond_false,zR hi (by omega)]
 ·simp only
  rw [decide_eq_false (by omega:¬ (xT b.length:Int)<(xT b.length:Int))]
  rfl
end Go.Proofs.YtplchdlgdjcojaaGreatDoor
end
section
namespace Go.Proofs.YtplchdlgdjcojaaGreatDoor
open Go
set_option linter.unusedSimpArgs false
set_option linter.unusedVariables false
def itN {α:Type} (f:α→α):Nat→α→α
 | 0,x=>x
 | n+1,x=>f (itN f n x)
def kJ (x:Int):Prop:=0≤x∧x≤4294967295
theorem dX (x:Int):kJ (IntKind.wrap .u32 x):=by
 rw [lG]
 constructor <;> omega
theorem cL (x y:Int):kJ (fF .u32 x y):=dX _
def zFC (c:Int):Int:=fF .u32 (vY .u32 c 1) (IntKind.wrap .u32 ((rA .u32 c 1)*3988292384))
def zMw (c x:Int):Int:=itN zFC 8 (fF .u32 c (IntKind.wrap .u32 x))
def zCL (l:List Int):Int:=l.foldl zMw 4294967295
theorem zMi (c:Int):kJ (zFC c):=cL _ _
theorem zHk {c:Int} (h:kJ c):∀ n,kJ (itN zFC n c)
 | 0=>h
 | n+1=>zMi _
theorem zME (c x:Int):kJ (zMw c x):=zHk (cL _ _) 8
theorem zIM (l:List Int):kJ (zCL l):=by
 unfold zCL
 have:∀ (l:List Int) (c:Int),kJ c→kJ (l.foldl zMw c):=by
  intro l
  induction l with
  | nil=>intro c h; exact h
  | cons x r ih=>intro c _; exact ih _ (zME c x)
 exact this l _ ⟨by omega,by omega⟩
theorem eG {x:Int} (h:kJ x):(BitVec.ofInt 32 x).toNat=x.toNat:=by
 rw [BitVec.toNat_ofInt]
 have:=h.1
 have:=h.2
 omega
theorem zJV {x:Int} (h:kJ x):fF .u32 x 0=x:=by
 unfold fF
 have e:(BitVec.ofInt (IntKind.bits .u32) x ^^^ BitVec.ofInt (IntKind.bits .u32) 0).toNat=x.toNat:=by
  show (BitVec.ofInt 32 x ^^^ BitVec.ofInt 32 0).toNat=_
  rw [←eG h]
  simp
 rw [e,lG]
 have:=h.1
 have:=h.2
 omega
theorem zMq {x:Int} (h:kJ x):rA .u32 x 1=x % 2:=by
 unfold rA
 have e:(BitVec.ofInt (IntKind.bits .u32) x&&&BitVec.ofInt (IntKind.bits .u32) 1).toNat=x.toNat % 2:=by
  show (BitVec.ofInt 32 x&&&BitVec.ofInt 32 1).toNat=_
  rw [BitVec.toNat_and,eG h]
  have:(BitVec.ofInt 32 1).toNat=1:=by decide
  rw [this,Nat.and_one_is_mod]
 rw [e,lG]
 have:=h.1
 have:=h.2
 omega
theorem zMI {x:Int} (h:kJ x):vY .u32 x 1=x / 2:=by
 unfold vY
 have:(2:Int) ^ (min (Int.toNat 1) (IntKind.bits .u32))=2:=by decide
 rw [this,Int.fdiv_eq_ediv_of_nonneg _ (by omega)]
theorem zSu {c:Int} (h:kJ c):zFC c=bif (c.tmod 2==1) then fF .u32 (IntKind.wrap .u32 (c.tdiv 2)) 3988292384 else IntKind.wrap .u32 (c.tdiv 2):=by
 unfold zFC
 have h0:=h.1
 have h1:=h.2
 have hd:IntKind.wrap .u32 (c.tdiv 2)=c / 2:=by
  rw [Int.tdiv_eq_ediv_of_nonneg h0,zKp (by omega) (by omega)]
 have hm:c.tmod 2=c % 2:=Int.tmod_eq_emod_of_nonneg h0
 rw [zMI h,zMq h,hd,hm]
 rcases Int.emod_two_eq c with h2 | h2
 ·rw [h2]
  have:IntKind.wrap .u32 (0*3988292384)=0:=by rw [lG]; decide
  rw [this,zJV ⟨by omega,by omega⟩]
  rfl
 ·rw [h2]
  have:IntKind.wrap .u32 (1*3988292384)=3988292384:=by rw [lG]; decide
  rw [this]
  rfl
theorem zTB {c:Int} (h:kJ c):fF .u32 (if IntKind.signed .u32 then -1 else IntKind.max .u32) c=IntKind.wrap .u32 (4294967295 - c):=by
 have h0:=h.1
 have h1:=h.2
 have em:(if IntKind.signed .u32 then -1 else IntKind.max .u32:Int)=4294967295:=by decide
 rw [em]
 unfold fF
 have e:(BitVec.ofInt (IntKind.bits .u32) 4294967295 ^^^ BitVec.ofInt (IntKind.bits .u32) c).toNat=4294967295 - c.toNat:=by
  show (BitVec.ofInt 32 4294967295 ^^^ BitVec.ofInt 32 c).toNat=_
  have:BitVec.ofInt 32 4294967295=BitVec.allOnes 32:=by decide
  rw [this,←BitVec.not_def,BitVec.toNat_not,eG h]
 rw [e]
 congr 1
 omega
theorem zHA {α σ:Type} {m:σ × Int→Option (sQ (σ × Int) σ)} (xs:List α) (f:σ→α→σ) (s0:σ) (hn:xs.length≤140737488355328) (I:σ→Prop) (hI:I s0) (hf:∀ s x,I s→I (f s x))
  (hs:∀ (i:Nat) (s:σ) (h:i<xs.length),I s→m (s,(i:Int))=some (.next (f s xs[i],((i+1:Nat):Int)))) (hd:∀ s,m (s,(xs.length:Int))=some (.done s)):yE m (s0,0)=some (xs.foldl f s0):=by
 have hI2:∀ n,I ((xs.take n).foldl f s0):=by
  intro n
  have:∀ (l:List α) (s:σ),I s→I (l.foldl f s):=by
   intro l
   induction l with
   | nil=>intro s h; exact h
   | cons x r ih=>intro s h; exact ih _ (hf s x h)
  exact this _ _ hI
 have:=qJ (m:=m) (fun i=>((xs.take i).foldl f s0,(i:Int))) xs.length (t:=xs.foldl f s0) (fun i hi=>?_) (by simp only [List.take_length]; exact hd _)
 ·simpa using this
 ·rw [hs i _ hi (hI2 i),xC hi,List.foldl_append]
  rfl
theorem zFF (b:List Int) (hb:b.length≤140737488355328):xZ b=some (IntKind.wrap .u32 (4294967295 - zCL b)):=by
 unfold xZ
 rw [zHA b zMw 4294967295 hb (fun _=>True) trivial (fun _ _ _=>trivial) (fun i s hi _=>?_) (fun s=>by simp)]
 ·simp only [bnd_some]
  exact congrArg some (zTB (zIM b))
 ·have h1:decide ((i:Int)<(b.length:Int))=true:=by simpa using hi
  simp only [h1,cond_true,yT hi,bnd_some]
  have:=qJ (m:=fun (s2:Int × Int)=>bif decide (s2.2<8) then (some (.next (fF .u32 (vY .u32 s2.1 1) (IntKind.wrap .u32 ((rA .u32 s2.1 1)*3988292384)),IntKind.wrap .i64 (s2.2+1)))) else (some (.done s2.1))) (fun k=>(itN zFC k (fF .u32 s (IntKind.wrap .u32 b[i])),(k:Int))) 8 (t:=zMw s b[i]) (fun k hk=>by
   have:decide ((k:Int)<8)=true:=by simp; omega
   simp only [this,cond_true]
   rw [zR (n:=8) hk (by omega)]
   rfl) rfl
  simp only [itN,Int.ofNat_zero] at this
  rw [this]
  simp only [bnd_some]
  rw [zR hi hb]
theorem zNR (b:List Int) (hb:b.length≤140737488355328):pQ b=some (IntKind.wrap .u32 (4294967295 - zCL b)):=by
 unfold pQ
 rw [zHA b zMw 4294967295 hb (fun _=>True) trivial (fun _ _ _=>trivial) (fun i s hi _=>?_) (fun s=>by simp)]
 ·rfl
 ·have h1:decide ((i:Int)<(b.length:Int))=true:=by simpa using hi
  simp only [h1,cond_true,yT hi,bnd_some]
  have:=qJ (m:=fun (s2:Int × Int)=>bif decide (s2.2<8) then (bif ((s2.1.tmod 2)==1) then (some (.next (fF .u32 (IntKind.wrap .u32 (s2.1.tdiv 2)) 3988292384,IntKind.wrap .i64 (s2.2+1)))) else (some (.next (IntKind.wrap .u32 (s2.1.tdiv 2),IntKind.wrap .i64 (s2.2+1))))) else (some (.done s2.1))) (fun k=>(itN zFC k (fF .u32 s (IntKind.wrap .u32 b[i])),(k:Int))) 8 (t:=zMw s b[i]) (fun k hk=>by
   have h2:decide ((k:Int)<8)=true:=by simp; omega
   simp only [h2,cond_true]
   rw [zR (n:=8) hk (by omega)]
   have hr:kJ (itN zFC k (fF .u32 s (IntKind.wrap .u32 b[i]))):=zHk (cL _ _) k
   show _=some (sQ.next (zFC (itN zFC k (fF .u32 s (IntKind.wrap .u32 b[i]))),_))
   rw [zSu hr]
   cases ((itN zFC k (fF .u32 s (IntKind.wrap .u32 b[i]))).tmod 2==1) <;> rfl) rfl
  simp only [itN,Int.ofNat_zero] at this
  rw [this]
  simp only [bnd_some]
  rw [zR hi hb]
end Go.Proofs.YtplchdlgdjcojaaGreatDoor
end
section
namespace Go.Proofs.YtplchdlgdjcojaaGreatDoor
open Go
set_option linter.unusedSimpArgs false
set_option linter.unusedVariables false
theorem zTC {s:ByteArray} {i:Nat} (h:i<s.size):eltS s (i:Int)=some ((s[i]).toNat:Int):=by
 simp [eltS,h]
def chI (s:ByteArray) (i:Nat):Int:=((s[i]?).map fun b=>(b.toNat:Int)).getD 0
theorem zIj {s:ByteArray} {i:Nat} (h:i<s.size):eltS s (i:Int)=some (chI s i):=by
 rw [zTC h]
 simp [chI,h]
def jO (y:Int):Bool:=decide (y≥97)&&decide (y≤122)
def zGp (y:Int):Bool:=decide (y≥48)&&decide (y≤57)||(y==45)
def sM (s:ByteArray):Bool:=decide (1≤s.size)&&decide (s.size≤16)&&(jO (chI s 0)&&(List.range s.size).all fun i=>jO (chI s i)||zGp (chI s i))
theorem zDk (s:ByteArray):uA s=some (sM s):=by
 unfold uA
 by_cases h1:s.size<1
 ·have:decide ((s.size:Int)<1)=true:=by simp; omega
  have h2:decide (1≤s.size)=false:=decide_eq_false (by omega)
  simp [this,sM,h2]
 by_cases h2:s.size>16
 ·have e1:decide ((s.size:Int)<1)=false:=by simp; omega
  have e2:decide ((s.size:Int)>16)=true:=by simp; omega
  have e3:decide (s.size≤16)=false:=by simp; omega
  simp [e1,e2,sM,e3]
 have e1:decide ((s.size:Int)<1)=false:=by simp; omega
 have e2:decide ((s.size:Int)>16)=false:=by simp; omega
 simp only [e1,e2,cond_false,bnd_some]
 have hl:=zEM (m:=fun (s1:Int)=>bif decide (s1<(s.size:Int)) then (bnd ((bnd (eltS s s1) fun y1=>bif decide (y1≥97) then (some (decide (y1≤122))) else (some false):Option Bool)) fun o4=>bnd ((bnd (eltS s s1) fun y2=>bif decide (y2≥48) then (bif decide (y2≤57) then (some true) else (some (y2==45))) else (some (y2==45)):Option Bool)) fun o5=>bnd ((bif !o4 then (bif (s1==0) then (some true) else (some (!o5))) else (some false):Option Bool)) fun o6=>bif o6 then (some (.done (.inl false))) else (some (.next (IntKind.wrap .i64 (s1+1))))) else (some (.done (.inr ()))))
  (fun i=>(i:Int)) s.size (fun i=>!jO (chI s i)&&(decide (i=0)||!zGp (chI s i))) (u:=(Sum.inl false:Bool ⊕ Unit)) (t:=.inr ()) (fun i hi=>?_) (by simp)
 ·rw [show ((0:Nat):Int)=0 from rfl] at hl
  rw [hl]
  simp only [bnd_some]
  have hn:sM s=!(List.range s.size).any (fun i=>!jO (chI s i)&&(decide (i=0)||!zGp (chI s i))):=by
   unfold sM
   have d1:decide (1≤s.size)=true:=by simp; omega
   have d2:decide (s.size≤16)=true:=by simp; omega
   rw [d1,d2,Bool.eq_iff_iff]
   simp only [Bool.true_and,Bool.and_eq_true,List.all_eq_true,List.mem_range,Bool.or_eq_true,Bool.not_eq_true',List.any_eq_false,decide_eq_true_eq,not_and,not_or]
   constructor
   ·rintro ⟨g1,g2⟩ i hi hc
    rcases g2 i hi with g | g
    ·simp [g] at hc
    ·refine ⟨fun h0=>?_,by simp [g]⟩
     subst h0
     simp [g1] at hc
   ·intro g
    have hlet0:jO (chI s 0)=true:=by
     cases hc:jO (chI s 0)
     ·exact absurd rfl (g 0 (by omega) (by simp [hc])).1
     ·rfl
    refine ⟨hlet0,fun i hi=>?_⟩
    cases hc:jO (chI s i)
    ·right
     have:=(g i hi (by simp [hc])).2
     simpa using this
    ·exact .inl rfl
  rw [hn]
  cases (List.range s.size).any (fun i=>!jO (chI s i)&&(decide (i=0)||!zGp (chI s i))) <;> rfl
 ·have h3:decide ((i:Int)<(s.size:Int))=true:=by simpa using hi
  have h4:((i:Int)==0)=decide (i=0):=by
   rw [Bool.eq_iff_iff]; simp
  simp only [h3,cond_true,zIj hi,bnd_some,h4,zR hi (by omega:s.size≤140737488355328),jO,zGp]
  cases decide (chI s i≥97) <;> cases decide (chI s i≤122) <;> cases decide (chI s i≥48) <;> cases decide (chI s i≤57) <;> cases (chI s i==45) <;> cases decide (i=0) <;> rfl
theorem zJz (s:ByteArray):nB s=some (sM s):=by
 unfold nB
 by_cases h1:s.size<1
 ·have:decide ((s.size:Int)<1)=true:=by simp; omega
  have h2:decide (1≤s.size)=false:=decide_eq_false (by omega)
  simp [this,sM,h2]
 by_cases h2:s.size>16
 ·have e1:decide ((s.size:Int)<1)=false:=by simp; omega
  have e2:decide ((s.size:Int)>16)=true:=by simp; omega
  have e3:decide (s.size≤16)=false:=by simp; omega
  simp [e1,e2,sM,e3]
 have e1:decide ((s.size:Int)<1)=false:=by simp; omega
 have e2:decide ((s.size:Int)>16)=false:=by simp; omega
 have hc0:eltS s 0=some (chI s 0):=zIj (i:=0) (by omega)
 have d1:decide (1≤s.size)=true:=by simp; omega
 have d2:decide (s.size≤16)=true:=by simp; omega
 simp only [e1,e2,cond_false,bnd_some,hc0]
 cases hl0:jO (chI s 0)
 ·have hn:sM s=false:=by simp [sM,hl0]
  rw [hn]
  simp only [jO,Bool.and_eq_false_iff,decide_eq_false_iff_not] at hl0
  by_cases g:chI s 0<97
  ·simp [g]
  ·have g2:chI s 0>122:=by omega
   simp [g,g2]
 ·have hl1:=hl0
  simp only [jO,Bool.and_eq_true,decide_eq_true_eq] at hl1
  have g1:decide (chI s 0<97)=false:=by simp; omega
  have g2:decide (chI s 0>122)=false:=by simp; omega
  simp only [g1,g2,cond_false,bnd_some]
  have hl:=zEM (m:=fun (s1:Int)=>bif decide (s1<(s.size:Int)) then (bnd ((bnd (eltS s s1) fun y2=>bif decide (y2≥97) then (bif decide (y2≤122) then (some false) else (bif decide (y2≥48) then (bif decide (y2≤57) then (some false) else (some (!(y2==45)))) else (some (!(y2==45))))) else (bif decide (y2≥48) then (bif decide (y2≤57) then (some false) else (some (!(y2==45)))) else (some (!(y2==45)))):Option Bool)) fun o4=>bif o4 then (some (.done (.inl false))) else (some (.next (IntKind.wrap .i64 (s1+1))))) else (some (.done (.inr ()))))
   (fun i=>(i:Int)) s.size (fun i=>!(jO (chI s i)||zGp (chI s i))) (u:=(Sum.inl false:Bool ⊕ Unit)) (t:=.inr ()) (fun i hi=>?_) (by simp)
  ·rw [show ((0:Nat):Int)=0 from rfl] at hl
   rw [hl]
   simp only [bnd_some]
   have hn:sM s=!(List.range s.size).any (fun i=>!(jO (chI s i)||zGp (chI s i))):=by
    unfold sM
    rw [d1,d2,hl0,Bool.eq_iff_iff]
    simp only [Bool.true_and,List.all_eq_true,List.mem_range,Bool.or_eq_true,Bool.not_eq_true',List.any_eq_false,Bool.not_eq_true,Bool.not_eq_false']
    constructor
    ·intro g x hx hf
     rcases g x hx with g | g <;> simp [g] at hf
    ·intro g x hx
     have:=g x hx
     cases a:jO (chI s x)
     ·cases b:zGp (chI s x)
      ·simp [a,b] at this
      ·exact .inr rfl
     ·exact .inl rfl
   rw [hn]
   cases (List.range s.size).any (fun i=>!(jO (chI s i)||zGp (chI s i))) <;> rfl
  ·have h3:decide ((i:Int)<(s.size:Int))=true:=by simpa using hi
   simp only [h3,cond_true,zIj hi,bnd_some,zR hi (by omega:s.size≤140737488355328),jO,zGp]
   cases decide (chI s i≥97) <;> cases decide (chI s i≤122) <;> cases decide (chI s i≥48) <;> cases decide (chI s i≤57) <;> cases (chI s i==45) <;> rfl
def zKa (n:Int):Bool:=decide (0≤n)&&decide (n≤999)
def iC (v:zL):Bool:=zKa v.Major&&(zKa v.Minor&&zKa v.Patch)
theorem dlt (a b:Int):decide (a<b)=!decide (b≤a):=by
 by_cases h:b≤a
 ·have:¬ a<b:=by omega
  simp [h,this]
 ·have:a<b:=by omega
  simp [h,this]
theorem zJR (v:zL):vI v=some (iC v):=by
 unfold vI vC iC zKa
 simp only [bnd_some,gt_iff_lt,dlt]
 cases decide (0≤v.Major) <;> cases decide (v.Major≤999) <;> cases decide (0≤v.Minor) <;> cases decide (v.Minor≤999) <;> cases decide (0≤v.Patch) <;> cases decide (v.Patch≤999) <;> rfl
theorem zNI (v:zL):pP v=some (iC v):=by
 unfold pP iC zKa
 simp only [ge_iff_le]
 cases decide (0≤v.Major) <;> cases decide (v.Major≤999) <;> cases decide (0≤v.Minor) <;> cases decide (v.Minor≤999) <;> cases decide (0≤v.Patch) <;> cases decide (v.Patch≤999) <;> rfl
def wK (i:zJ):Bool:=sM i.Name&&(iC i.Version&&(decide (1≤i.Data.length)&&decide (i.Data.length≤512)))
theorem gJ (i:zJ):uX i=some (wK i):=by
 unfold uX wK
 have e1:decide ((i.Data.length:Int)≥1)=decide (1≤i.Data.length):=by rw [Bool.eq_iff_iff]; simp; omega
 have e2:decide ((i.Data.length:Int)≤512)=decide (i.Data.length≤512):=by rw [Bool.eq_iff_iff]; simp; omega
 simp only [zDk,zJR,bnd_some,e1,e2]
 cases sM i.Name <;> cases iC i.Version <;> cases decide (1≤i.Data.length) <;> cases decide (i.Data.length≤512) <;> rfl
theorem zCD (i:zJ):pM i=some (wK i):=by
 unfold pM wK
 have e1:decide ((i.Data.length:Int)≥1)=decide (1≤i.Data.length):=by rw [Bool.eq_iff_iff]; simp; omega
 have e2:decide ((i.Data.length:Int)≤512)=decide (i.Data.length≤512):=by rw [Bool.eq_iff_iff]; simp; omega
 simp only [zJz,zNI,bnd_some,e1,e2]
 cases sM i.Name <;> cases iC i.Version <;> cases decide (1≤i.Data.length) <;> cases decide (i.Data.length≤512) <;> rfl
theorem rN {i:zJ} (h:wK i=true):sM i.Name=true∧iC i.Version=true∧1≤i.Data.length∧i.Data.length≤512:=by
 simpa [wK] using h
theorem tE {s:ByteArray} (h:sM s=true):1≤s.size∧s.size≤16:=by
 simp only [sM,Bool.and_eq_true,decide_eq_true_eq] at h
 exact h.1
theorem qQ (s:ByteArray):(nE s).length=s.size:=by simp [nE,ByteArray.toList_eq]
def two (n:Int):List Int:= [IntKind.wrap .u8 (vY .i64 n 8),IntKind.wrap .u8 n]
def zAB (v:zL):List Int:=two v.Major++(two v.Minor++two v.Patch)
def zFf (i:zJ):List Int:=IntKind.wrap .u8 (i.Name.size:Int)::(nE i.Name++(zAB i.Version++(two (i.Data.length:Int)++i.Data)))
theorem oT {xs ys:List Int} (h:xs.length+ys.length≤140737488355328):app 1 xs ys=some (xs++ys):=tB (by omega) (by omega)
theorem aH {i:zJ} (h:i.Name.size≤16∧i.Data.length≤512):(zFf i).length≤600:=by
 simp [zFf,zAB,two,qQ]
 omega
theorem zFk {i:zJ} (h:i.Name.size≤16∧i.Data.length≤512):qE i=some (zFf i):=by
 have hb:=qQ i.Name
 unfold qE rS vU tA
 rw [oT (by simp)]
 simp only [bnd_some,List.nil_append]
 rw [oT (by simp [hb]; omega)]
 simp only [bnd_some]
 rw [oT (by simp [hb]; omega)]
 simp only [bnd_some]
 rw [oT (by simp [hb]; omega)]
 simp only [bnd_some]
 rw [oT (by simp [hb]; omega)]
 simp only [bnd_some]
 rw [oT (by simp [hb]; omega)]
 simp only [bnd_some]
 rw [oT (by simp [hb]; omega)]
 simp [zFf,zAB,two]
theorem zHs {i:zJ} (h:i.Name.size≤16∧i.Data.length≤512):pR i=some (zFf i):=by
 have hb:=qQ i.Name
 unfold pR qU uE qR
 rw [oT (by simp [hb]; omega)]
 simp only [bnd_some]
 rw [oT (by simp)]
 simp only [bnd_some]
 rw [oT (by simp)]
 simp only [bnd_some]
 rw [oT (by simp [hb]; omega)]
 simp only [bnd_some]
 rw [oT (by simp [hb]; omega)]
 simp only [bnd_some]
 rw [oT (by simp [hb]; omega)]
 simp [zFf,zAB,two]
def mZ (i:zJ):Int:=bif wK i then IntKind.wrap .u32 (4294967295 - zCL (zFf i)) else 0
theorem zBW (i:zJ):qT i=some (mZ i):=by
 unfold qT mZ
 rw [gJ]
 cases h:wK i
 ·rfl
 ·obtain ⟨h1,h2,h3,h4⟩:=rN h
  have hs:i.Name.size≤16∧i.Data.length≤512:=⟨(tE h1).2,h4⟩
  have hl:=aH hs
  simp only [bnd_some,Bool.not_true,cond_false,zFk hs]
  rw [zFF _ (by omega)]
  rfl
theorem zNU (i:zJ):jJ i=some (mZ i):=by
 unfold jJ mZ
 rw [zCD]
 cases h:wK i
 ·rfl
 ·obtain ⟨h1,h2,h3,h4⟩:=rN h
  have hs:i.Name.size≤16∧i.Data.length≤512:=⟨(tE h1).2,h4⟩
  have hl:=aH hs
  simp only [bnd_some,Bool.not_true,cond_false,zHs hs]
  rw [zNR _ (by omega)]
  rfl
theorem zBg (i:zJ):kJ (mZ i):=by
 unfold mZ
 cases wK i
 ·exact ⟨by show (0:Int)≤0; omega,by show (0:Int)≤4294967295; omega⟩
 ·exact dX _
def zDb (s:yF):Bool:=wK s.Image&&(s.Sum==mZ s.Image)
def oI (s:yF) (n:ByteArray):Bool:=zDb s&&decide (s.Image.Name=n)
theorem zLP (s:yF):iT s=some (zDb s):=by
 unfold iT zDb
 simp only [gJ,zBW,bnd_some]
 cases wK s.Image <;> rfl
theorem zEL (d:zB) (s:yF):oK d s=some (oI s d.Name):=by
 unfold oK oI
 simp only [zLP,bnd_some,cC]
 cases zDb s <;> rfl
end Go.Proofs.YtplchdlgdjcojaaGreatDoor
end
section
namespace Go.Proofs.YtplchdlgdjcojaaGreatDoor
open Go
set_option linter.unusedSimpArgs false
set_option linter.unusedVariables false
def bit (k:Int):Prop:=k=0∨k=1
instance (k:Int):Decidable (bit k):=by unfold bit; infer_instance
def tZ (a:qN yF) (k:Int):yF:=if k=0 then a.e0 else a.e1
def lP (a:qN yF) (k:Int) (y:yF):qN yF:=if k=0 then ⟨y,a.e1⟩ else ⟨a.e0,y⟩
def zRX:zJ:=⟨⟨#[]⟩,⟨0,0,0⟩, []⟩
def lC:yF:=⟨zRX,0⟩
def aP:zB:=⟨⟨#[]⟩,⟨lC,lC⟩,0,0,false⟩
theorem zGE (a:qN yF) {k:Int} (h:bit k):elt [a.e0,a.e1] k=some (tZ a k):=by
 rcases h with rfl | rfl <;> rfl
theorem zVy (a:qN yF) (y:yF) {k:Int} (h:bit k):qN.set a k y=some (lP a k y):=by
 rcases h with rfl | rfl <;> rfl
theorem zVz {k:Int} (h:bit k):IntKind.wrap .i64 (1 - k)=1 - k:=by
 rcases h with rfl | rfl <;> exact yP (by omega) (by omega)
theorem sF {k:Int} (h:bit k):bit (1 - k):=by rcases h with rfl | rfl <;> simp [bit]
theorem zEH {a:qN yF} {y:yF} {k:Int}:tZ (lP a k y) k=y:=by
 unfold tZ lP; by_cases h:k=0 <;> simp [h]
theorem zJO {a:qN yF} {y:yF} {k j:Int} (hk:bit k) (hj:bit j) (h:j≠k):tZ (lP a k y) j=tZ a j:=by
 rcases hk with rfl | rfl <;> rcases hj with rfl | rfl <;> simp_all [tZ,lP]
def lB (d:zB):Bool:=
 decide (bit d.Active)&&(decide (bit d.Running)&&(oI (tZ d.Slots d.Active) d.Name&&(oI (tZ d.Slots d.Running) d.Name&&(!d.Trial||(decide (d.Running=d.Active)&&oI (tZ d.Slots (1 - d.Active)) d.Name)))))
theorem zHa (k:Int):k<0∨bit k∨k>1:=by unfold bit; omega
theorem jW (d:zB):tU d=some (lB d):=by
 unfold tU lB uS
 simp only [zEL,bnd_some]
 rcases zHa d.Active with h | h | h
 ·have h1:¬ bit d.Active:=by unfold bit; omega
  simp [h,h1]
 ·have g1:decide (d.Active<0)=false:=by rcases h with h | h <;> rw [h] <;> rfl
  have g2:decide (d.Active>1)=false:=by rcases h with h | h <;> rw [h] <;> rfl
  simp only [g1,g2,cond_false,h,decide_true,Bool.true_and,zGE _ h,bnd_some]
  rcases zHa d.Running with k | k | k
  ·have k1:¬ bit d.Running:=by unfold bit; omega
   simp [k,k1]
  ·have k1:decide (d.Running<0)=false:=by rcases k with k | k <;> rw [k] <;> rfl
   have k2:decide (d.Running>1)=false:=by rcases k with k | k <;> rw [k] <;> rfl
   simp only [k1,k2,cond_false,k,decide_true,Bool.true_and,zGE _ k,bnd_some,zVz k,zGE _ (sF k)]
   have e:(d.Running==d.Active)=decide (d.Running=d.Active):=rfl
   rw [e]
   by_cases hra:d.Running=d.Active
   ·simp only [hra,decide_true,cond_true]
    cases oI (tZ d.Slots d.Active) d.Name <;> cases oI (tZ d.Slots (1 - d.Active)) d.Name <;> cases d.Trial <;> rfl
   ·simp only [hra,decide_false,cond_false]
    cases oI (tZ d.Slots d.Active) d.Name <;> cases oI (tZ d.Slots d.Running) d.Name <;> cases d.Trial <;> rfl
  ·have k1:¬ bit d.Running:=by unfold bit; omega
   have k2:decide (d.Running<0)=false:=by simp; omega
   simp [k,k1,k2]
 ·have h1:¬ bit d.Active:=by unfold bit; omega
  have h2:decide (d.Active<0)=false:=by simp; omega
  simp [h,h1,h2]
structure VD (d:zB):Prop where
 ba:bit d.Active
 br:bit d.Running
 ga:oI (tZ d.Slots d.Active) d.Name=true
 gr:oI (tZ d.Slots d.Running) d.Name=true
 tr:d.Trial=true→d.Running=d.Active∧oI (tZ d.Slots (1 - d.Active)) d.Name=true
theorem qH (d:zB):lB d=true↔VD d:=by
 unfold lB
 simp only [Bool.and_eq_true,decide_eq_true_eq,Bool.or_eq_true,Bool.not_eq_true']
 constructor
 ·rintro ⟨h1,h2,h3,h4,h5⟩
  exact ⟨h1,h2,h3,h4,fun ht=>by rcases h5 with h5 | h5 <;> simp_all⟩
 ·rintro ⟨h1,h2,h3,h4,h5⟩
  refine ⟨h1,h2,h3,h4,?_⟩
  cases ht:d.Trial
  ·exact .inl rfl
  ·exact .inr (h5 ht)
def wrE (d:zB):Int:=bif lB d then (bif (d.Running != d.Active) then 46 else bif d.Trial then 46 else 0) else 1
theorem zEl (d:zB):tN d=some (wrE d):=by
 unfold tN wrE
 simp only [jW,bnd_some]
 cases lB d <;> cases (d.Running != d.Active) <;> cases d.Trial <;> rfl
theorem zDY {d:zB} (h:wrE d=0):VD d∧d.Running=d.Active∧d.Trial=false:=by
 unfold wrE at h
 cases hv:lB d
 ·simp [hv] at h
 ·simp only [hv,cond_true] at h
  cases hr:(d.Running != d.Active)
  ·simp only [hr,cond_false] at h
   cases ht:d.Trial
   ·exact ⟨(qH d).1 hv,by simpa using hr,rfl⟩
   ·simp [ht] at h
  ·simp [hr] at h
theorem zNk {d:zB} (h:VD d) (hr:d.Running=d.Active) (ht:d.Trial=false):wrE d=0:=by
 unfold wrE
 rw [(qH d).2 h,hr,ht]
 simp
def small (i:zJ):Prop:=i.Data.length≤1000
def mG (d:zB):Prop:=small d.Slots.e0.Image∧small d.Slots.e1.Image
theorem zLM {d:zB} (h:mG d) {k:Int} {y:yF} (hy:small y.Image):small (lP d.Slots k y).e0.Image∧small (lP d.Slots k y).e1.Image:=by
 unfold lP
 split
 ·exact ⟨hy,h.2⟩
 ·exact ⟨h.1,hy⟩
theorem dW {i:zJ} (h:small i):qV i=some i:=by
 unfold qV zQ
 unfold small at h
 rw [oT (by simp; omega)]
 rfl
theorem zPj {i:zJ} (h:small i):jF i=some i:=by
 unfold jF
 unfold small at h
 rw [oT (by simp; omega)]
 rfl
theorem mN {d:zB} (h:mG d):uQ d=some d:=by
 unfold uQ
 rw [dW h.1]
 simp only [bnd_some]
 rw [dW h.2]
 rfl
def zIH (d:zB):zB × Int:=bif (wrE d != 0) then (aP,wrE d) else (⟨d.Name,lP d.Slots (1 - d.Running) lC,d.Active,d.Running,d.Trial⟩,0)
def cE (d:zB) (i:zJ) (n:Int):Bool:=wK i&&(decide (i.Name=d.Name)&&(decide (0≤n)&&decide (n≤(i.Data.length:Int))))
def zIF (d:zB) (i:zJ) (n:Int):zB × Int:=
 bif (wrE d != 0) then (aP,wrE d) else bif cE d i n then (⟨d.Name,lP d.Slots (1 - d.Running) ⟨⟨i.Name,i.Version,i.Data.take n.toNat⟩,0⟩,d.Active,d.Running,d.Trial⟩,0) else (aP,2)
def zEp (d:zB) (s:Int):zB × Int:=
 bif (wrE d != 0) then (aP,wrE d) else bif oI ⟨(tZ d.Slots (1 - d.Running)).Image,s⟩ d.Name then (⟨d.Name,lP d.Slots (1 - d.Running) ⟨(tZ d.Slots (1 - d.Running)).Image,s⟩,d.Active,d.Running,d.Trial⟩,0) else (aP,5)
def zEd (d:zB):zB × Int:=
 bif (wrE d != 0) then (aP,wrE d) else bif oI (tZ d.Slots (1 - d.Running)) d.Name then (⟨d.Name,d.Slots,d.Active,d.Running,true⟩,0) else (aP,46)
def zBV (d:zB):zB:=bif lB d then (bif d.Trial then ⟨d.Name,d.Slots,d.Active,1 - d.Active,false⟩ else ⟨d.Name,d.Slots,d.Active,d.Active,d.Trial⟩) else aP
def zCt (d:zB):zB × Int:=bif lB d then (bif d.Trial then (aP,46) else (⟨d.Name,d.Slots,d.Running,d.Running,d.Trial⟩,0)) else (aP,1)
def pH (d:zB):zL:=bif lB d then (tZ d.Slots d.Running).Image.Version else ⟨0,0,0⟩
def zCl (i:zJ):zB × Int:=bif wK i then (⟨i.Name,⟨⟨i,mZ i⟩,lC⟩,0,0,false⟩,0) else (aP,1)
theorem zKN {i:zJ} (h:small i):mF i=some (zCl i):=by
 unfold mF zCl
 simp only [gJ,dW h,zBW,bnd_some]
 cases wK i <;> rfl
theorem zTg {i:zJ} (h:small i):fX i=some (zCl i):=by
 unfold fX zCl
 simp only [zCD,zPj h,zNU,bnd_some]
 cases wK i <;> rfl
theorem gI {d:zB} (h:bit d.Running):uS d=some (1 - d.Running):=by
 unfold uS
 rw [zVz h,zGE _ (sF h)]
 rfl
theorem zMs {d:zB} (h:mG d):iW d=some (zIH d):=by
 unfold iW zIH
 simp only [zEl,mN h,bnd_some]
 by_cases hw:wrE d=0
 ·obtain ⟨hv,hr,ht⟩:=zDY hw
  have e:(wrE d != 0)=false:=by simp [hw]
  simp only [e,cond_false,gI hv.br,bnd_some,zGE _ (sF hv.br),zVy _ _ (sF hv.br)]
  rfl
 ·have e:(wrE d != 0)=true:=by simp [hw]
  simp only [e,cond_true]
  rfl
theorem zRN {α:Type} {l:List α} {n:Int} (h0:0≤n) (h1:n≤(l.length:Int)):sub l 0 n=some (l.take n.toNat):=by
 simp [sub,h0,h1]
theorem zLy {d:zB} {i:zJ} (h:mG d) (hi:small i) (n:Int):iX d i n=some (zIF d i n):=by
 unfold iX zIF
 simp only [zEl,gJ,cC,bnd_some]
 by_cases hw:wrE d=0
 ·obtain ⟨hv,hr,ht⟩:=zDY hw
  have e:(wrE d != 0)=false:=by simp [hw]
  simp only [e,cond_false,gt_iff_lt,dlt]
  have eo:(bif !wK i then some true else bif !decide (i.Name=d.Name) then some true else bif !decide (0≤n) then some true else some (!decide (n≤(i.Data.length:Int))):Option Bool)=some (!cE d i n):=by
   unfold cE
   cases wK i <;> cases decide (i.Name=d.Name) <;> cases decide (0≤n) <;> cases decide (n≤(i.Data.length:Int)) <;> rfl
  rw [eo]
  simp only [bnd_some]
  cases ho:cE d i n
  ·rfl
  ·simp only [cE,Bool.and_eq_true,decide_eq_true_eq] at ho
   have hs:small (⟨i.Name,i.Version,i.Data.take n.toNat⟩:zJ):=by
    unfold small at*
    simp
    omega
   simp only [Bool.not_true,cond_false,cond_true,mN h,bnd_some,zRN ho.2.2.1 ho.2.2.2,gI hv.br,dW hs,zGE _ (sF hv.br),zVy _ _ (sF hv.br)]
 ·have e:(wrE d != 0)=true:=by simp [hw]
  simp only [e,cond_true]
  rfl
theorem zKu {d:zB} (h:mG d) (s:Int):kY d s=some (zEp d s):=by
 unfold kY zEp
 simp only [zEl,mN h,bnd_some]
 by_cases hw:wrE d=0
 ·obtain ⟨hv,hr,ht⟩:=zDY hw
  have e:(wrE d != 0)=false:=by simp [hw]
  simp only [e,cond_false,gI hv.br,bnd_some,zGE _ (sF hv.br),zVy _ _ (sF hv.br),zEL]
  rw [gI (d:=⟨d.Name,lP d.Slots (1 - d.Running) ⟨(tZ d.Slots (1 - d.Running)).Image,s⟩,d.Active,d.Running,d.Trial⟩) hv.br]
  simp only [bnd_some,zGE _ (sF hv.br),zEH]
  cases oI ⟨(tZ d.Slots (1 - d.Running)).Image,s⟩ d.Name <;> rfl
 ·have e:(wrE d != 0)=true:=by simp [hw]
  simp only [e,cond_true]
  rfl
theorem zKG {d:zB} (h:mG d):nQ d=some (zEd d):=by
 unfold nQ zEd
 simp only [zEl,mN h,bnd_some]
 by_cases hw:wrE d=0
 ·obtain ⟨hv,hr,ht⟩:=zDY hw
  have e:(wrE d != 0)=false:=by simp [hw]
  simp only [e,cond_false,gI hv.br,bnd_some,zGE _ (sF hv.br),zEL]
  cases oI (tZ d.Slots (1 - d.Running)) d.Name <;> rfl
 ·have e:(wrE d != 0)=true:=by simp [hw]
  simp only [e,cond_true]
  rfl
theorem zHR {d:zB} (h:mG d):mW d=some (zBV d):=by
 unfold mW zBV
 simp only [jW,mN h,bnd_some]
 cases hv:lB d
 ·rfl
 ·have:=((qH d).1 hv).ba
  simp only [zVz this,Bool.not_true,cond_false,cond_true]
  cases d.Trial <;> rfl
theorem zIi {d:zB} (h:mG d):oL d=some (zCt d):=by
 unfold oL zCt
 simp only [jW,mN h,bnd_some]
 cases lB d <;> cases d.Trial <;> rfl
theorem zIp (d:zB):lI d=some (pH d):=by
 unfold lI pH
 simp only [jW,bnd_some]
 cases hv:lB d
 ·rfl
 ·simp only [Bool.not_true,cond_false,cond_true,zGE _ ((qH d).1 hv).br,bnd_some]
end Go.Proofs.YtplchdlgdjcojaaGreatDoor
end
section
namespace Go.Proofs.YtplchdlgdjcojaaGreatDoor
open Go
set_option linter.unusedSimpArgs false
set_option linter.unusedVariables false
theorem zMH {x:Int}:inK .u8 x↔0≤x∧x≤255:=Iff.rfl
structure vV (c:xS):Prop where
 hl:∀ x∈c.L,inK .u8 x
 h0:0≤c.At
 hn:c.L.length≤140737488355328
 ha:c.At≤(c.L.length:Int)
theorem zOn {a b:Int} (ha:0≤a∧a<65536) (hb:0≤b∧b<65536):0≤iOr .i64 a b∧iOr .i64 a b<65536:=by
 unfold iOr
 have e:(BitVec.ofInt (IntKind.bits .i64) a|||BitVec.ofInt (IntKind.bits .i64) b).toNat=a.toNat|||b.toNat:=by
  show (BitVec.ofInt 64 a|||BitVec.ofInt 64 b).toNat=_
  rw [BitVec.toNat_or,BitVec.toNat_ofInt,BitVec.toNat_ofInt]
  congr 1 <;> omega
 rw [e]
 have h:=Nat.or_lt_two_pow (x:=a.toNat) (y:=b.toNat) (n:=16) (by omega) (by omega)
 rw [yP (by omega) (by omega)]
 omega
theorem zWm {x:Int} (h:0≤x∧x≤255):kL .i64 x 8=x*256:=by
 unfold kL
 have:(2:Int) ^ (min (Int.toNat 8) (IntKind.bits .i64))=256:=by decide
 rw [this,yP (by omega) (by omega)]
theorem zNP {v n:Int} (hv:0≤v) (hn:1≤n):∃ x,zLh v n=some x∧0≤x∧x<n:=by
 refine ⟨v % n,?_,Int.emod_nonneg _ (by omega),Int.emod_lt_of_pos _ (by omega)⟩
 unfold zLh
 rw [if_neg (by omega),Int.tmod_eq_emod_of_nonneg hv]
theorem zTi {c:xS} (h:vV c) (n:Int):∃ c' x,yJ c n=some (c',x)∧vV c'∧0≤x∧(x=0∨x<n):=by
 unfold yJ sH
 simp only [bnd_some]
 obtain ⟨hl,h0,hn,ha⟩:=h
 by_cases hlt:c.At<(c.L.length:Int)
 ·have d1:decide (c.At<(c.L.length:Int))=true:=by simpa using hlt
  simp only [d1,Bool.not_true,cond_false,bnd_some]
  by_cases hn1:n<1
  ·simp only [hn1,decide_true,cond_true]
   exact ⟨c,0,rfl,⟨hl,h0,hn,ha⟩,by omega, .inl rfl⟩
  simp only [hn1,decide_false,cond_false]
  obtain ⟨k,hk⟩:∃ k:Nat,c.At=(k:Int):=⟨c.At.toNat,by omega⟩
  have hkl:k<c.L.length:=by omega
  have hx:=zMH.1 (hl _ (List.getElem_mem hkl))
  rw [hk,yT hkl]
  simp only [bnd_some]
  have hw:IntKind.wrap .i64 ((k:Int)+1)=((k+1:Nat):Int):=zR hkl hn
  have hx':IntKind.wrap .i64 c.L[k]=c.L[k]:=yP (by omega) (by omega)
  rw [hw,hx']
  have hok1:vV (⟨c.L,((k+1:Nat):Int)⟩:xS):=⟨hl,by show (0:Int)≤((k+1:Nat):Int); omega,hn,by show ((k+1:Nat):Int)≤(c.L.length:Int); omega⟩
  by_cases hbig:n>256∧k+1<c.L.length
  ·have d2:decide (n>256)=true:=by simpa using hbig.1
   have d3:decide (((k+1:Nat):Int)<(c.L.length:Int))=true:=by simp; omega
   have hy:=zMH.1 (hl _ (List.getElem_mem hbig.2))
   have hy':IntKind.wrap .i64 c.L[k+1]=c.L[k+1]:=yP (by omega) (by omega)
   simp only [d2,d3,cond_true,bnd_some,yT hbig.2,hy',zWm hy]
   have ho:=zOn (a:=c.L[k]) (b:=c.L[k+1]*256) (by omega) (by omega)
   obtain ⟨x,e1,e2,e3⟩:=zNP (n:=n) ho.1 (by omega)
   rw [e1]
   have hw2:IntKind.wrap .i64 (((k+1:Nat):Int)+1)=((k+2:Nat):Int):=zR hbig.2 hn
   exact ⟨_,x,rfl,⟨hl,by show 0≤IntKind.wrap .i64 _; rw [hw2]; omega,hn,by show IntKind.wrap .i64 _≤(c.L.length:Int); rw [hw2]; omega⟩,e2, .inr e3⟩
  ·have d2:(bif decide (n>256) then some (decide (((k+1:Nat):Int)<(c.L.length:Int))) else some false:Option Bool)=some false:=by
    by_cases g:n>256
    ·have:¬ k+1<c.L.length:=fun h=>hbig ⟨g,h⟩
     have d3:decide (((k+1:Nat):Int)<(c.L.length:Int))=false:=by simp; omega
     rw [d3]
     simp [g]
    ·simp [g]
   rw [d2]
   simp only [bnd_some,cond_false]
   obtain ⟨x,e1,e2,e3⟩:=zNP (n:=n) hx.1 (by omega)
   rw [e1]
   exact ⟨_,x,rfl,hok1,e2, .inr e3⟩
 ·have d1:decide (c.At<(c.L.length:Int))=false:=by simpa using hlt
  simp only [d1,Bool.not_false,cond_true,bnd_some]
  exact ⟨c,0,rfl,⟨hl,h0,hn,ha⟩,by omega, .inl rfl⟩
theorem zOx {l:List Int} (h:okL (inK .u8) l) {most:Int} (h0:0≤most) (h1:most≤100000):∃ c,fN l most=some c∧vV c:=by
 unfold fN
 have hs:sub l 0 (min (l.length:Int) most)=some (l.take (min (l.length:Int) most).toNat):=by
  unfold sub
  rw [if_pos ⟨by omega,by omega,by omega⟩]
  simp
 rw [hs]
 refine ⟨_,rfl,fun x hx=>h.1 x (List.mem_of_mem_take hx),by simp,?_,by simp⟩
 simp only [List.length_take]
 omega
end Go.Proofs.YtplchdlgdjcojaaGreatDoor
end
section
namespace Go.Proofs.YtplchdlgdjcojaaGreatDoor
open Go
set_option linter.unusedSimpArgs false
set_option linter.unusedVariables false
structure Inv (d:zB) (n:ByteArray):Prop where
 vd:VD d
 nm:d.Name=n
 sm:mG d
theorem zJl {d:zB} {n:ByteArray} (h:Inv d n) (hr:d.Running=d.Active) (ht:d.Trial=false) {y:yF} (hy:small y.Image):
  Inv ⟨d.Name,lP d.Slots (1 - d.Running) y,d.Active,d.Running,d.Trial⟩ n:=by
 obtain ⟨⟨ba,br,ga,gr,tr⟩,nm,sm⟩:=h
 have hne:d.Running≠1 - d.Running:=by rcases br with h | h <;> rw [h] <;> decide
 have e:tZ (lP d.Slots (1 - d.Running) y) d.Running=tZ d.Slots d.Running:=zJO (sF br) br hne
 refine ⟨⟨ba,br,?_,?_,fun h=>?_⟩,nm,zLM sm hy⟩
 ·simp only; rw [←hr,e]; exact gr
 ·simp only; rw [e]; exact gr
 ·rw [ht] at h; cases h
theorem zEG:small zRX:=by unfold small zRX; simp
theorem zSJ {i:zJ} (h:wK i=true):Inv (zCl i).1 i.Name∧(zCl i).2=0∧(zCl i).1=⟨i.Name,⟨⟨i,mZ i⟩,lC⟩,0,0,false⟩:=by
 unfold zCl
 rw [h]
 have hs:=rN h
 have hg:oI ⟨i,mZ i⟩ i.Name=true:=by simp [oI,zDb,h]
 refine ⟨⟨⟨.inl rfl, .inl rfl,hg,hg,fun h=>by cases h⟩,rfl,?_,zEG⟩,rfl,rfl⟩
 show i.Data.length≤1000
 omega
theorem zSy {v:zL} (h1:0≤v.Major) (h2:v.Major≤999) (h3:0≤v.Minor) (h4:v.Minor≤999) (h5:0≤v.Patch) (h6:v.Patch≤999):iC v=true:=by
 simp [iC,zKa, *]
theorem zQM {i:zJ} (h1:sM i.Name=true) (h2:iC i.Version=true) (h3:1≤i.Data.length) (h4:i.Data.length≤512):wK i=true:=by
 simp [wK, *]
end Go.Proofs.YtplchdlgdjcojaaGreatDoor
end
section
namespace Go.Proofs.YtplchdlgdjcojaaGreatDoor
open Go
set_option linter.unusedSimpArgs false
set_option linter.unusedVariables false
theorem zBx:∀ (x y:List UInt8),(Op.bytesLess x y||(x==y))=!Op.bytesLess y x
 | [], []=>rfl
 | [],_::_=>rfl
 | _::_, []=>rfl
 | a::x,b::y=>by
  have ih:=zBx x y
  simp only [Op.bytesLess,List.cons_beq_cons]
  by_cases h:a=b
  ·subst h
   have:¬ a<a:=UInt8.lt_irrefl a
   simp [this]
   simpa using ih
  ·have h1:(a==b)=false:=by simpa using h
   have h2:(b==a)=false:=by simpa using fun e=>h e.symm
   rw [h1,h2]
   simp only [Bool.false_and,Bool.or_false]
   by_cases hl:a<b
   ·have:¬ b<a:=UInt8.lt_asymm hl
    simp [hl,this]
   ·have:b<a:=by
     rcases UInt8.lt_or_lt_of_ne h with g | g
     ·exact absurd g hl
     ·exact g
    simp [hl,this]
def zPe (x:Nat):Bool:=decide (97≤x)&&decide (x≤122)
def zHt (x:Nat):Bool:=(decide (48≤x)&&decide (x≤57))||x==45
def lR (s:ByteArray):Bool:=decide (1≤(bs s).length)&&decide ((bs s).length≤16)&&(List.range (bs s).length).all fun i=>match (bs s)[i]? with | some x=>zPe x||(i != 0&&zHt x) | none=>true
def zBA (v:zL):Bool:=decide (0≤v.Major)&&decide (v.Major≤999)&&(decide (0≤v.Minor)&&decide (v.Minor≤999))&&(decide (0≤v.Patch)&&decide (v.Patch≤999))
theorem bU {α:Type} (l:List α) (p:α→Bool):(l.any fun x=>!p x)=!l.all p:=by
 induction l with
 | nil=>rfl
 | cons x r ih=>simp [ih,Bool.not_and]
theorem zJi (s:ByteArray):uA s=some (lR s):=by
 unfold uA
 have hl:(bs s).length=s.size:=bs_len s
 by_cases h:(s.size<1)∨(16<s.size)
 ·have e1:(bif decide ((s.size:Int)<1) then some true else some (decide ((s.size:Int)>16)):Option Bool)=some true:=by
   by_cases h1:s.size<1
   ·have:decide ((s.size:Int)<1)=true:=by simp; omega
    rw [this]; rfl
   ·have:decide ((s.size:Int)<1)=false:=by simp; omega
    rw [this]; simp; omega
  rw [e1]
  have:lR s=false:=by
   unfold lR
   rw [hl]
   rcases h with h | h
   ·have:decide (1≤s.size)=false:=decide_eq_false (by omega)
    rw [this]; rfl
   ·have:decide (s.size≤16)=false:=decide_eq_false (by omega)
    rw [this]; simp
  rw [this]
  rfl
 ·have h1:decide ((s.size:Int)<1)=false:=by simp; omega
  have h2:decide ((s.size:Int)>16)=false:=by simp; omega
  simp only [h1,h2,cond_false,bnd_some]
  refine oQ (fun (i:Nat)=>(i:Int)) s.size (fun i=>match (bs s)[i]? with | some x=>!(zPe x||(i != 0&&zHt x)) | none=>false) (.inl false) (.inr ()) rfl (fun i hi=>?_) ?_ ?_
  ·have hib:i<(bs s).length:=by omega
   have d0:decide ((i:Int)<(s.size:Int))=true:=by simp; omega
   simp only [d0,cond_true,zSH hi,bnd_some,zR hi (by omega)]
   rw [List.getElem?_eq_getElem hib]
   generalize (bs s)[i]=x
   have a1:decide ((x:Int)≥97)=decide (97≤x):=by congr 1; simp; omega
   have a2:decide ((x:Int)≤122)=decide (x≤122):=by congr 1; simp; omega
   have a3:decide ((x:Int)≥48)=decide (48≤x):=by congr 1; simp; omega
   have a4:decide ((x:Int)≤57)=decide (x≤57):=by congr 1; simp; omega
   have a5:((x:Int)==45)=(x==45):=by
    rw [Bool.eq_iff_iff,beq_iff_eq,beq_iff_eq]
    omega
   have a6:((i:Int)==0)=(i==0):=by rw [Bool.eq_iff_iff]; simp
   rw [a1,a2,a3,a4,a5,a6]
   simp only [zPe,zHt,bne]
   cases decide (97≤x) <;> cases decide (x≤122) <;> cases decide (48≤x) <;> cases decide (x≤57) <;> cases x==45 <;> cases i==0 <;> rfl
  ·have d0:decide ((s.size:Int)<(s.size:Int))=false:=by simp
   simp only [d0,cond_false]
  ·have e2:(List.range s.size).any (fun i=>match (bs s)[i]? with | some x=>!(zPe x||(i != 0&&zHt x)) | none=>false)=!((List.range (bs s).length).all fun i=>match (bs s)[i]? with | some x=>zPe x||(i != 0&&zHt x) | none=>true):=by
    rw [←bU,hl]
    congr 1
    funext i
    cases (bs s)[i]? <;> rfl
   rw [e2]
   unfold lR
   have b1:decide (1≤(bs s).length)=true:=by rw [hl]; simp; omega
   have b2:decide ((bs s).length≤16)=true:=by rw [hl]; simp; omega
   rw [b1,b2]
   cases (List.range (bs s).length).all fun i=>match (bs s)[i]? with | some x=>zPe x||(i != 0&&zHt x) | none=>true <;> rfl
theorem zQV (v:zL):vI v=some (zBA v):=by
 unfold vI vC zBA
 simp only [bnd_some]
 have h1:∀ x:Int,decide (x<0)=!decide (0≤x):=fun x=>by rw [←decide_not]; congr 1; simp
 have h2:∀ x:Int,decide (x>999)=!decide (x≤999):=fun x=>by rw [←decide_not]; congr 1; simp
 simp only [h1,h2]
 cases decide (0≤v.Major) <;> cases decide (v.Major≤999) <;> cases decide (0≤v.Minor) <;> cases decide (v.Minor≤999) <;> cases decide (0≤v.Patch) <;> cases decide (v.Patch≤999) <;> rfl
def blt (a b:ByteArray):Bool:=Op.bytesLess a.data.toList b.data.toList
theorem zRz (a b:ByteArray):Op.bytesLess a.toList b.toList=blt a b:=by rw [ByteArray.toList_eq,ByteArray.toList_eq]; rfl
def cOk (l:List zH) (i:Nat):Bool:=match l[i]? with
 | some x=>lR x.Name&&zBA x.Version&&(i==0||match l[i - 1]? with | some y=>blt y.Name x.Name | none=>true)
 | none=>true
def tF (l:List zH):Bool:=decide (l.length≤8)&&(List.range l.length).all (cOk l)
theorem zRr (l:List zH):vQ l=some (tF l):=by
 unfold vQ tF
 by_cases h:8<l.length
 ·have d1:decide ((l.length:Int)>8)=true:=by simp; omega
  have d2:decide (l.length≤8)=false:=by simp; omega
  rw [d1,d2]; rfl
 ·have d1:decide ((l.length:Int)>8)=false:=by simp; omega
  have d2:decide (l.length≤8)=true:=by simp; omega
  rw [d1,d2]
  simp only [cond_false,Bool.true_and]
  refine oQ (fun (i:Nat)=>(i:Int)) l.length (fun i=>!cOk l i) (.inl false) (.inr ()) rfl (fun i hi=>?_) ?_ ?_
  ·have d0:decide ((i:Int)<(l.length:Int))=true:=by simp; omega
   simp only [d0,cond_true,yT hi,bnd_some,zJi,zQV,zR hi (by omega),cOk,List.getElem?_eq_getElem hi]
   by_cases h0:i=0
   ·subst h0
    have e:decide (((0:Nat):Int)>0)=false:=by simp
    rw [e]
    cases lR l[0].Name <;> cases zBA l[0].Version <;> rfl
   ·have e:decide ((i:Int)>0)=true:=by simp; omega
    have e2:(i==0)=false:=by simp [h0]
    have hp:i - 1<l.length:=by omega
    rw [e,e2,zAl (n:=l.length) (by omega) hi (by omega),yT hp,List.getElem?_eq_getElem hp]
    simp only [bnd_some,zBx,Bool.false_or,cond_true]
    simp only [zRz]
    cases lR l[i].Name <;> cases zBA l[i].Version <;> cases blt l[i - 1].Name l[i].Name <;> rfl
  ·have d0:decide ((l.length:Int)<(l.length:Int))=false:=by simp
   simp only [d0,cond_false]
  ·rw [bU]
   cases (List.range l.length).all (cOk l) <;> rfl
def nOk (x:zX):Bool:=lR x.Component&&lR x.On&&!decide (bs x.Component=bs x.On)&&zBA x.From&&zBA x.At
def kZ (l:List zX):Bool:=decide (l.length≤16)&&l.all nOk
theorem zPy (l:List zX):sX l=some (kZ l):=by
 unfold sX kZ
 by_cases h:16<l.length
 ·have d1:decide ((l.length:Int)>16)=true:=by simp; omega
  have d2:decide (l.length≤16)=false:=by simp; omega
  rw [d1,d2]; rfl
 ·have d1:decide ((l.length:Int)>16)=false:=by simp; omega
  have d2:decide (l.length≤16)=true:=by simp; omega
  rw [d1,d2]
  simp only [cond_false,Bool.true_and]
  refine oQ (fun (i:Nat)=>(i:Int)) l.length (fun i=>match l[i]? with | some x=>!nOk x | none=>false) (.inl false) (.inr ()) rfl (fun i hi=>?_) ?_ ?_
  ·have d0:decide ((i:Int)<(l.length:Int))=true:=by simp; omega
   simp only [d0,cond_true,yT hi,bnd_some,zJi,zQV,zR hi (by omega),List.getElem?_eq_getElem hi,zBZ,nOk]
   generalize l[i]=x
   cases lR x.Component <;> cases lR x.On <;> cases decide (bs x.Component=bs x.On) <;> cases zBA x.From <;> cases zBA x.At <;> rfl
  ·have d0:decide ((l.length:Int)<(l.length:Int))=false:=by simp
   simp only [d0,cond_false]
  ·rw [zHM l (fun x=>!nOk x) _ (fun i hi=>by rw [List.getElem?_eq_getElem hi]),bU]
   cases l.all nOk <;> rfl
def cM (l:List zH) (name:ByteArray):Option zL:=(l.find? fun x=>decide (bs x.Name=bs name)).map (·.Version)
def vlt (a b:zL):Bool:=decide (a.Major<b.Major)||(decide (a.Major=b.Major)&&(decide (a.Minor<b.Minor)||(decide (a.Minor=b.Minor)&&decide (a.Patch<b.Patch))))
def eD (l:List zH) (n:zX):Bool:=match cM l n.Component with
 | none=>true
 | some v=>vlt v n.From||match cM l n.On with | none=>false | some u=>!vlt u n.At
theorem zFW {l:List zH} (hl:l.length≤1000) (name:ByteArray):qD l name=some (match cM l name with | some v=>(v,true) | none=>(⟨0,0,0⟩,false)):=by
 unfold qD
 refine nO (fun (i:Nat)=>(i:Int)) l.length (fun i=>match l[i]? with | some x=>if decide (bs x.Name=bs name)=true then some (.inl (x.Version,true)) else none | none=>none) (.inr ()) rfl (fun i hi=>?_) ?_ ?_
 ·have d0:decide ((i:Int)<(l.length:Int))=true:=by simp; omega
  simp only [d0,cond_true,yT hi,bnd_some,zR hi (by omega),List.getElem?_eq_getElem hi,zBZ]
  cases decide (bs l[i].Name=bs name) <;> rfl
 ·have d0:decide ((l.length:Int)<(l.length:Int))=false:=by simp
  simp only [d0,cond_false]
 ·rcases zAR l (fun x=>decide (bs x.Name=bs name)) (fun _ x=>(.inl (x.Version,true):(zL × Bool) ⊕ Unit)) (fun i=>match l[i]? with | some x=>if decide (bs x.Name=bs name)=true then some (.inl (x.Version,true)) else none | none=>none) (fun i hi=>by rw [List.getElem?_eq_getElem hi]) with ⟨i,hi,h1,h2,h3⟩ | ⟨h1,h2,h3⟩
  ·rw [h3]
   simp only [cM,h2]
   rfl
  ·rw [h3]
   simp only [cM,h1]
   rfl
theorem zUM (x y:Int):tI x y=some (if x<y then -1 else if y<x then 1 else 0):=by
 unfold tI pI
 simp only [bnd_some,bne_self_eq_false,cond_false]
 by_cases h1:x<y
 ·simp [h1]
 ·by_cases h2:y<x
  ·simp [h1,h2]
  ·simp [h1,h2]
theorem zEX (a b:zL):∃ r,rE a b=some r∧decide (r<0)=vlt a b:=by
 unfold rE vC pU vlt
 simp only [bnd_some,zUM]
 by_cases h1:a.Major<b.Major
 ·exact ⟨-1,by simp [h1],by simp [h1]⟩
 ·by_cases h2:b.Major<a.Major
  ·have:¬ a.Major=b.Major:=by omega
   exact ⟨1,by simp [h1,h2],by simp [h1,this]⟩
  ·have e:a.Major=b.Major:=by omega
   by_cases h3:a.Minor<b.Minor
   ·exact ⟨-1,by simp [h1,h2,h3],by simp [e,h3]⟩
   ·by_cases h4:b.Minor<a.Minor
    ·have:¬ a.Minor=b.Minor:=by omega
     exact ⟨1,by simp [h1,h2,h3,h4],by simp [e,h3,this]⟩
    ·have e2:a.Minor=b.Minor:=by omega
     by_cases h5:a.Patch<b.Patch
     ·exact ⟨-1,by simp [h1,h2,h3,h4,h5],by simp [e,e2,h5]⟩
     ·by_cases h6:b.Patch<a.Patch
      ·exact ⟨1,by simp [h1,h2,h3,h4,h5,h6],by simp [e,e2,h5]⟩
      ·exact ⟨0,by simp [h1,h2,h3,h4,h5,h6],by simp [e,e2,h5]⟩
theorem zRj {l:List zH} (hl:l.length≤1000) (n:zX):pL l n=some (eD l n):=by
 unfold pL eD
 rw [zFW hl,zFW hl]
 cases h1:cM l n.Component with
 | none=>rfl
 | some v=>
  obtain ⟨r,e1,e2⟩:=zEX v n.From
  simp only [bnd_some,Bool.not_true,cond_false,e1,e2]
  cases h2:vlt v n.From
  ·simp only [cond_false,Bool.false_or]
   cases h3:cM l n.On with
   | none=>rfl
   | some u=>
    obtain ⟨r',e3,e4⟩:=zEX u n.At
    simp only [bnd_some,cond_true,e3]
    have:decide (r'≥0)=!vlt u n.At:=by rw [←e4,←decide_not]; congr 1; simp
    rw [this]
  ·rfl
def zIC (l:List zH) (needs:List zX) (r:Int × Int):Prop:=
 if tF l=false then r=(0,1) else if kZ needs=false then r=(0,2) else r.2=0∧decide (r.1<0)=needs.all (eD l)
theorem gB (l:List zH) (needs:List zX):∃ r,xN l needs=some r∧zIC l needs r:=by
 unfold xN zIC
 rw [zRr,zPy]
 cases h1:tF l
 ·exact ⟨(0,1),rfl,by simp⟩
 simp only [bnd_some,Bool.not_true,cond_false,Bool.true_eq_false,if_false]
 cases h2:kZ needs
 ·exact ⟨(0,2),rfl,by simp⟩
 simp only [bnd_some,Bool.not_true,cond_false,Bool.true_eq_false,if_false]
 have hl:l.length≤8:=by
  unfold tF at h1
  have:=(Bool.and_eq_true_iff.1 h1).1
  simpa using this
 have hn:needs.length≤16:=by
  unfold kZ at h2
  have:=(Bool.and_eq_true_iff.1 h2).1
  simpa using this
 rcases zAR needs (fun x=>!eD l x) (fun i _=>(.inl ((i:Int),0):(Int × Int) ⊕ Unit)) (fun i=>match needs[i]? with | some x=>if (!eD l x)=true then some (.inl ((i:Int),0)) else none | none=>none) (fun i hi=>by rw [List.getElem?_eq_getElem hi]) with ⟨i,hi,g1,g2,g3⟩ | ⟨g1,g2,g3⟩
 ·refine ⟨((i:Int),0),?_,rfl,?_⟩
  ·refine nO (fun (i:Nat)=>(i:Int)) needs.length (fun i=>match needs[i]? with | some x=>if (!eD l x)=true then some (.inl ((i:Int),0)) else none | none=>none) (.inr ()) rfl (fun i hi=>?_) ?_ ?_
   ·have d0:decide ((i:Int)<(needs.length:Int))=true:=by simp; omega
    simp only [d0,cond_true,yT hi,bnd_some,zR hi (by omega),List.getElem?_eq_getElem hi,zRj (l:=l) (by omega)]
    cases eD l needs[i] <;> rfl
   ·have d0:decide ((needs.length:Int)<(needs.length:Int))=false:=by simp
    simp only [d0,cond_false]
   ·rw [g3]; rfl
  ·have:needs.all (eD l)=false:=by
    cases hc:needs.all (eD l)
    ·rfl
    ·have:=List.all_eq_true.1 hc _ (List.getElem_mem hi)
     rw [this] at g1; cases g1
   rw [this]
   simp
 ·refine ⟨(-1,0),?_,rfl,?_⟩
  ·refine nO (fun (i:Nat)=>(i:Int)) needs.length (fun i=>match needs[i]? with | some x=>if (!eD l x)=true then some (.inl ((i:Int),0)) else none | none=>none) (.inr ()) rfl (fun i hi=>?_) ?_ ?_
   ·have d0:decide ((i:Int)<(needs.length:Int))=true:=by simp; omega
    simp only [d0,cond_true,yT hi,bnd_some,zR hi (by omega),List.getElem?_eq_getElem hi,zRj (l:=l) (by omega)]
    cases eD l needs[i] <;> rfl
   ·have d0:decide ((needs.length:Int)<(needs.length:Int))=false:=by simp
    simp only [d0,cond_false]
   ·rw [g3]; rfl
  ·have:needs.all (eD l)=true:=List.all_eq_true.2 fun x hx=>by simpa using g2 x hx
   rw [this]
   rfl
def wS (l:List zH):List (List Nat):=l.map fun x=>bs x.Name
def tK (p:yY):Nat:=
 if (tF p.Now&&tF p.Next)=false then 1 else if kZ p.Needs=false then 2 else if wS p.Now≠wS p.Next then 8 else
  if (p.Needs.all (eD p.Now)&&p.Needs.all (eD p.Next))=false then 42 else 0
theorem zKx:tF []=true:=rfl
theorem zKk:kZ []=true:=rfl
theorem zDx {l:List zH} (h:tF l=true):l.length≤8:=by
 unfold tF at h
 have:=(Bool.and_eq_true_iff.1 h).1
 simpa using this
theorem zLr {a b:List zH} (ha:a.length≤1000):zW a b=some (decide (wS a=wS b)):=by
 unfold zW
 by_cases hl:a.length=b.length
 ·have d1:((a.length:Int) != (b.length:Int))=false:=by simp [hl]
  rw [d1]
  simp only [cond_false]
  refine oQ (fun (i:Nat)=>(i:Int)) a.length (fun i=>match a[i]?,b[i]? with | some x,some y=>!decide (bs x.Name=bs y.Name) | _,_=>false) (.inl false) (.inr ()) rfl (fun i hi=>?_) ?_ ?_
  ·have d0:decide ((i:Int)<(a.length:Int))=true:=by simp; omega
   have hb:i<b.length:=by omega
   simp only [d0,cond_true,yT hi,yT hb,bnd_some,zR hi (by omega),List.getElem?_eq_getElem hi,List.getElem?_eq_getElem hb,rC,zBZ]
   cases decide (bs a[i].Name=bs b[i].Name) <;> rfl
  ·have d0:decide ((a.length:Int)<(a.length:Int))=false:=by simp
   simp only [d0,cond_false]
  ·have:(List.range a.length).any (fun i=>match a[i]?,b[i]? with | some x,some y=>!decide (bs x.Name=bs y.Name) | _,_=>false)=!decide (wS a=wS b):=by
    rw [Bool.eq_iff_iff]
    simp only [List.any_eq_true,List.mem_range,Bool.not_eq_true',decide_eq_false_iff_not]
    constructor
    ·rintro ⟨i,hi,h⟩ he
     have hb:i<b.length:=by omega
     rw [List.getElem?_eq_getElem hi,List.getElem?_eq_getElem hb] at h
     simp only [Bool.not_eq_true',decide_eq_false_iff_not] at h
     apply h
     have:(wS a)[i]? =(wS b)[i]?:=by rw [he]
     simpa [wS,hi,hb] using this
    ·intro h
     refine Classical.byContradiction fun hn=>h ?_
     apply List.ext_getElem?
     intro i
     by_cases hi:i<a.length
     ·have hb:i<b.length:=by omega
      refine Classical.byContradiction fun hne=>hn ⟨i,hi,?_⟩
      rw [List.getElem?_eq_getElem hi,List.getElem?_eq_getElem hb]
      simp only [Bool.not_eq_true',decide_eq_false_iff_not]
      intro e
      apply hne
      simp [wS,hi,hb,e]
     ·rw [List.getElem?_eq_none (by simp [wS]; omega),List.getElem?_eq_none (by simp [wS]; omega)]
   rw [this]
   cases decide (wS a=wS b) <;> rfl
 ·have d1:((a.length:Int) != (b.length:Int))=true:=by
   rw [bne_iff_ne]; omega
  rw [d1]
  have:decide (wS a=wS b)=false:=by
   simp only [decide_eq_false_iff_not]
   intro h
   have:=congrArg List.length h
   simp [wS] at this
   exact hl this
  rw [this]
  rfl
theorem zJG (p:yY):sE p=some (tK p:Int):=by
 unfold sE tK
 obtain ⟨r1,a1,b1⟩:=gB p.Now []
 obtain ⟨r2,a2,b2⟩:=gB p.Next []
 obtain ⟨r3,a3,b3⟩:=gB [] p.Needs
 obtain ⟨r5,a5,b5⟩:=gB p.Now p.Needs
 obtain ⟨r6,a6,b6⟩:=gB p.Next p.Needs
 simp only [a1,a2,a3,a5,a6,bnd_some]
 unfold zIC at b1 b2 b3 b5 b6
 rw [zKk] at b1 b2
 rw [zKx] at b3
 cases h1:tF p.Now
 ·rw [if_pos h1] at b1
  subst b1
  rfl
 rw [if_neg (by rw [h1]; simp)] at b1
 simp only [Bool.true_eq_false,if_false] at b1
 have c1:(r1.2 != 0)=false:=by rw [b1.1]; rfl
 rw [c1]
 cases h2:tF p.Next
 ·rw [if_pos h2] at b2
  subst b2
  rfl
 rw [if_neg (by rw [h2]; simp)] at b2
 simp only [Bool.true_eq_false,if_false] at b2
 have c2:(r2.2 != 0)=false:=by rw [b2.1]; rfl
 rw [c2]
 simp only [cond_false,bnd_some,Bool.and_self,Bool.true_eq_false,if_false] at b3 ⊢
 cases h3:kZ p.Needs
 ·rw [if_pos h3] at b3
  subst b3
  rfl
 rw [if_neg (by rw [h3]; simp)] at b3
 have c3:(r3.2 != 0)=false:=by rw [b3.1]; rfl
 rw [c3]
 simp only [cond_false,Bool.true_eq_false,if_false]
 rw [zLr (by have:=zDx h1; omega)]
 by_cases h4:wS p.Now=wS p.Next
 ·simp only [h4,decide_true,bnd_some,Bool.not_true,cond_false,ne_eq,not_true_eq_false,if_false]
  rw [if_neg (by rw [h1]; simp),if_neg (by rw [h3]; simp)] at b5
  rw [if_neg (by rw [h2]; simp),if_neg (by rw [h3]; simp)] at b6
  have e5:decide (r5.1≥0)=!p.Needs.all (eD p.Now):=by rw [←b5.2,←decide_not]; congr 1; simp
  have e6:decide (r6.1≥0)=!p.Needs.all (eD p.Next):=by rw [←b6.2,←decide_not]; congr 1; simp
  rw [e5,e6]
  cases p.Needs.all (eD p.Now) <;> cases p.Needs.all (eD p.Next) <;> rfl
 ·simp only [h4,decide_false,bnd_some,Bool.not_false,cond_true,ne_eq,not_false_eq_true,if_true]
  rfl
structure iH (p:yY):Prop where
 now:tF p.Now=true
 next:tF p.Next=true
 needs:kZ p.Needs=true
 names:wS p.Now=wS p.Next
 met0:p.Needs.all (eD p.Now)=true
 met1:p.Needs.all (eD p.Next)=true
theorem zMT {p:yY}:tK p=0↔iH p:=by
 unfold tK
 constructor
 ·intro h
  split at h
  ·cases h
  ·rename_i h1
   split at h
   ·cases h
   ·rename_i h2
    split at h
    ·cases h
    ·rename_i h3
     split at h
     ·cases h
     ·rename_i h4
      simp only [Bool.and_eq_false_iff,not_or,Bool.not_eq_false] at h1 h4
      exact ⟨h1.1,h1.2,by simpa using h2,Classical.not_not.1 h3,h4.1,h4.2⟩
 ·intro h
  rw [if_neg (by rw [h.now,h.next]; simp),if_neg (by rw [h.needs]; simp),if_neg (by simp [h.names]),if_neg (by rw [h.met0,h.met1]; simp)]
theorem iH.len {p:yY} (h:iH p):p.Next.length=p.Now.length:=by
 have:=congrArg List.length h.names
 simpa [wS] using this.symm
theorem iH.le8 {p:yY} (h:iH p):p.Now.length≤8:=zDx h.now
end Go.Proofs.YtplchdlgdjcojaaGreatDoor
end
section
namespace Go.Proofs.YtplchdlgdjcojaaGreatDoor
open Go
set_option linter.unusedSimpArgs false
set_option linter.unusedVariables false
def zCm (n:Nat) (f:Nat→Bool):Nat:=(List.range n).foldl (fun s i=>if f i=true then s|||2 ^ i else s) 0
theorem zAh (n:Nat) (f:Nat→Bool):zCm (n+1) f=if f n=true then zCm n f|||2 ^ n else zCm n f:=by
 simp [zCm,List.range_succ]
theorem zIa (n:Nat) (f:Nat→Bool):zCm n f<2 ^ n:=by
 induction n with
 | zero=>simp [zCm]
 | succ n ih=>
  rw [zAh]
  have h1:zCm n f<2 ^ (n+1):=Nat.lt_trans ih (Nat.pow_lt_pow_right (by omega) (by omega))
  have h2:2 ^ n<2 ^ (n+1):=Nat.pow_lt_pow_right (by omega) (by omega)
  split
  ·exact Nat.or_lt_two_pow h1 h2
  ·exact h1
theorem zKo (n:Nat) (f:Nat→Bool) (i:Nat):(zCm n f).testBit i=(decide (i<n)&&f i):=by
 induction n with
 | zero=>simp [zCm]
 | succ n ih=>
  rw [zAh]
  by_cases hi:i=n
  ·subst hi
   cases h:f i
   ·simp [ih]
   ·simp [Nat.testBit_or,ih]
  ·have e:decide (i<n+1)=decide (i<n):=by
    congr 1
    simp only [eq_iff_iff]
    omega
   split
   ·rw [Nat.testBit_or,ih,Nat.testBit_two_pow_of_ne (fun h=>hi h.symm),e]
    simp
   ·rw [ih,e]
theorem zIE (a i:Nat):(a / 2 ^ i)&&&1=if a.testBit i=true then 1 else 0:=by
 rw [Nat.and_one_is_mod,Nat.testBit_eq_decide_div_mod_eq]
 by_cases h:a / 2 ^ i % 2=1
 ·simp [h]
 ·simp [h]; omega
theorem zNE (a i:Nat):(((((a / 2 ^ i)&&&1:Nat)):Int)==1)=a.testBit i:=by
 rw [zIE]
 cases a.testBit i <;> rfl
theorem zSE (a i:Nat):(((((a / 2 ^ i)&&&1:Nat)):Int)==0)=!a.testBit i:=by
 rw [zIE]
 cases a.testBit i <;> rfl
theorem zSY (a i:Nat):((((a|||2 ^ i:Nat)):Int)==(a:Int))=a.testBit i:=by
 cases h:a.testBit i
 ·rw [beq_eq_false_iff_ne]
  intro e
  have:a|||2 ^ i=a:=by exact_mod_cast e
  have h2:(a|||2 ^ i).testBit i=true:=by simp [Nat.testBit_or]
  rw [this,h] at h2
  cases h2
 ·rw [beq_iff_eq]
  congr 1
  apply Nat.eq_of_testBit_eq
  intro j
  rw [Nat.testBit_or]
  by_cases hj:i=j
  ·subst hj; simp [h]
  ·simp [Nat.testBit_two_pow_of_ne hj]
def cU (S F:Nat):Prop:=∀ i,S.testBit i=true→F.testBit i=true
theorem cU.le {S F:Nat} (h:cU S F):S≤F:=by
 have:S|||F=F:=by
  apply Nat.eq_of_testBit_eq
  intro i
  rw [Nat.testBit_or]
  cases hs:S.testBit i
  ·simp
  ·simp [h i hs]
 rw [←this]
 exact Nat.left_le_or
theorem cU.zero (F:Nat):cU 0 F:=fun i h=>by simp at h
theorem cU.refl (F:Nat):cU F F:=fun i h=>h
theorem cU.or {S F i:Nat} (h:cU S F) (hi:F.testBit i=true):cU (S|||2 ^ i) F:=fun j hj=>by
 rw [Nat.testBit_or] at hj
 by_cases hji:i=j
 ·subst hji; exact hi
 ·rw [Nat.testBit_two_pow_of_ne hji] at hj
  exact h j (by simpa using hj)
theorem zII (S i j:Nat):(S|||2 ^ i).testBit j=(S.testBit j||decide (i=j)):=by
 rw [Nat.testBit_or]
 by_cases h:i=j
 ·subst h; simp
 ·simp [Nat.testBit_two_pow_of_ne h,h]
theorem zOe {S i:Nat} (h:S.testBit i=false):S<S|||2 ^ i:=by
 rcases Nat.lt_or_ge S (S|||2 ^ i) with g | g
 ·exact g
 ·have e:S|||2 ^ i=S:=Nat.le_antisymm g Nat.left_le_or
  have:=zII S i i
  rw [e,h] at this
  simp at this
def iF (p:yY) (i:Nat):Bool:=match p.Now[i]?,p.Next[i]? with
 | some x1,some x2=>!((x1.Version.Major==x2.Version.Major)&&((x1.Version.Minor==x2.Version.Minor)&&((x1.Version.Patch==x2.Version.Patch)&&true)))
 | _,_=>false
def yQ (p:yY):Nat:=zCm p.Now.length (iF p)
theorem zVV {i:Nat} (h:i<8):2 ^ i<256:=Nat.pow_lt_pow_right (a:=2) (n:=8) (by omega) h
theorem zXd {i:Nat} (h:i<8):zCs .i64 1 (i:Int)=some ((2 ^ i:Nat):Int):=by
 have:=zSg (a:=1) (s:=i) (by omega) (by rw [Nat.one_mul]; have:=zVV h; omega)
 rw [Nat.one_mul] at this
 exact this
theorem zWQ {a i:Nat} (h:i≤64):zEW .i64 (a:Int) (i:Int)=some ((a / 2 ^ i:Nat):Int):=zQE h
theorem or1 {a i:Nat} (ha:a<256) (h:i<8):iOr .i64 (a:Int) ((2 ^ i:Nat):Int)=((a|||2 ^ i:Nat):Int):=zBU (a:=a) (b:=2 ^ i) (by omega) (by have:=zVV h; omega)
theorem zVw {a:Nat} (h:a<4611686018427387904):rA .i64 (a:Int) 1=((a&&&1:Nat):Int):=zQO (b:=1) h (by omega)
theorem zWr {a i:Nat} (ha:a<256) (h:i<8):a|||2 ^ i<256:=Nat.or_lt_two_pow (n:=8) ha (zVV h)
theorem zAj {n:Nat} {f:Nat→Bool} (h:n≤8):zCm n f<256:=Nat.lt_of_lt_of_le (zIa n f) (Nat.pow_le_pow_right (by omega) h)
theorem zQD {p:yY} (h:p.Now.length≤8) (hl:p.Next.length=p.Now.length):qF p=some (yQ p:Int):=by
 unfold qF yQ
 refine wE (fun (i:Nat)=>(((zCm i (iF p):Nat):Int),(i:Int))) p.Now.length _ rfl (fun i hi=>?_) ?_ rfl
 ·have d0:decide ((i:Int)<(p.Now.length:Int))=true:=by simp; omega
  have hb:i<p.Next.length:=by omega
  simp only [d0,cond_true,yT hi,yT hb,bnd_some,zR hi (by omega),zXd (i:=i) (by omega),or1 (a:=zCm i (iF p)) (zAj (by omega)) (i:=i) (by omega)]
  rw [zAh]
  have e:iF p i=!((p.Now[i].Version.Major==p.Next[i].Version.Major)&&((p.Now[i].Version.Minor==p.Next[i].Version.Minor)&&((p.Now[i].Version.Patch==p.Next[i].Version.Patch)&&true))):=by
   unfold iF
   rw [List.getElem?_eq_getElem hi,List.getElem?_eq_getElem hb]
  rw [←e]
  cases iF p i <;> rfl
 ·have d0:decide ((p.Now.length:Int)<(p.Now.length:Int))=false:=by simp
  simp only [d0,cond_false]
def stU (p:yY) (S i:Nat):List zH:=p.Now.mapIdx fun j a=>if (decide (j<i)&&S.testBit j)=true then (p.Next[j]?).getD a else a
def kC (p:yY) (S:Nat):List zH:=stU p S p.Now.length
@[simp] theorem stU_len (p:yY) (S i:Nat):(stU p S i).length=p.Now.length:=by simp [stU]
theorem zBK {p:yY} (hl:p.Next.length=p.Now.length) {S i j:Nat} (hj:j<p.Now.length):(stU p S i)[j]'(by simpa using hj)=if (decide (j<i)&&S.testBit j)=true then p.Next[j] else p.Now[j]:=by
 simp only [stU,List.getElem_mapIdx]
 have:j<p.Next.length:=by omega
 rw [List.getElem?_eq_getElem this]
 rfl
theorem zSv (p:yY) (S:Nat):stU p S 0=p.Now:=by
 apply List.ext_getElem (by simp)
 intro j h1 h2
 simp [stU]
theorem zRB {p:yY} (hl:p.Next.length=p.Now.length) {S i:Nat} (hi:i<p.Now.length):stU p S (i+1)=if S.testBit i=true then (stU p S i).set i p.Next[i] else stU p S i:=by
 split
 ·rename_i hb
  apply List.ext_getElem (by simp)
  intro j h1 h2
  have hj:j<p.Now.length:=by simpa using h1
  rw [zBK hl hj]
  by_cases hji:j=i
  ·subst hji
   simp [hb]
  ·rw [List.getElem_set_ne (fun h=>hji h.symm),zBK hl hj]
   have:decide (j<i+1)=decide (j<i):=by
    congr 1
    simp only [eq_iff_iff]
    omega
   rw [this]
 ·rename_i hb
  apply List.ext_getElem (by simp)
  intro j h1 h2
  have hj:j<p.Now.length:=by simpa using h1
  rw [zBK hl hj,zBK hl hj]
  by_cases hji:j=i
  ·subst hji
   simp [hb]
  ·have:decide (j<i+1)=decide (j<i):=by
    congr 1
    simp only [eq_iff_iff]
    omega
   rw [this]
theorem zWv {α:Type} {xs:List α} {i:Nat} {y:α} (h:i<xs.length):sT xs (i:Int) y=some (xs.set i y):=by
 unfold sT
 rw [if_pos ⟨by omega,by omega⟩]
 simp
theorem zRF {p:yY} (h:p.Now.length≤8) (hl:p.Next.length=p.Now.length) {S:Nat} (hS:S<256):qY p (S:Int)=some (kC p S):=by
 unfold qY xE
 rw [tB (by simp; omega) (by simp; omega)]
 simp only [List.nil_append,bnd_some]
 refine wE (fun (i:Nat)=>((i:Int),stU p S i)) p.Now.length _ (by rw [zSv]; rfl) (fun i hi=>?_) ?_ rfl
 ·have d0:decide ((i:Int)<(p.Now.length:Int))=true:=by simp; omega
  have hb:i<p.Next.length:=by omega
  have hst:i<(stU p S i).length:=by simpa using hi
  have hd:S / 2 ^ i<4611686018427387904:=Nat.lt_of_le_of_lt (Nat.div_le_self _ _) (by omega)
  simp only [d0,cond_true,zWQ (a:=S) (i:=i) (by omega),bnd_some,zVw hd,zNE,yT hb,yT hst,zWv hst,zR hi (by omega),zRB hl hi]
  cases S.testBit i <;> rfl
 ·have d0:decide ((p.Now.length:Int)<(p.Now.length:Int))=false:=by simp
  simp only [d0,cond_false,kC]
theorem iH.name {p:yY} (h:iH p) {i:Nat} (hi:i<p.Now.length):(p.Next[i]'(by rw [h.len]; exact hi)).Name=p.Now[i].Name:=by
 have h2:i<p.Next.length:=by rw [h.len]; exact hi
 have:(wS p.Now)[i]? =(wS p.Next)[i]?:=by rw [h.names]
 simp [wS,hi,h2] at this
 exact (zQz this).symm
theorem zFz {l:List zH} (h:tF l=true) {i:Nat} (hi:i<l.length):cOk l i=true:=by
 unfold tF at h
 exact List.all_eq_true.1 (Bool.and_eq_true_iff.1 h).2 i (by simpa using hi)
theorem zEY {p:yY} (h:iH p) {S i:Nat} (hi:i<p.Now.length):(kC p S)[i]'(by simpa [kC] using hi)=if S.testBit i=true then p.Next[i]'(by rw [h.len]; exact hi) else p.Now[i]:=by
 unfold kC
 rw [zBK h.len hi]
 simp [hi]
theorem zDu {p:yY} (h:iH p) {S i:Nat} (hi:i<p.Now.length):((kC p S)[i]'(by simpa [kC] using hi)).Name=p.Now[i].Name:=by
 rw [zEY h hi]
 split
 ·exact h.name hi
 ·rfl
theorem zJA {p:yY} (h:iH p) (S:Nat):tF (kC p S)=true:=by
 unfold tF
 have hlen:(kC p S).length=p.Now.length:=by simp [kC]
 rw [hlen]
 refine Bool.and_eq_true_iff.2 ⟨by simpa using h.le8,List.all_eq_true.2 fun i hi=>?_⟩
 have hi:i<p.Now.length:=by simpa using hi
 have h1:=zFz h.now hi
 have h2:=zFz h.next (i:=i) (by rw [h.len]; exact hi)
 have hs:i<(kC p S).length:=by rw [hlen]; exact hi
 have hn:i<p.Next.length:=by rw [h.len]; exact hi
 unfold cOk at h1 h2 ⊢
 rw [List.getElem?_eq_getElem hs]
 rw [List.getElem?_eq_getElem hi] at h1
 rw [List.getElem?_eq_getElem hn] at h2
 simp only [zDu h hi,Bool.and_eq_true] at h1 h2 ⊢
 refine ⟨⟨h1.1.1,?_⟩,?_⟩
 ·rw [zEY h hi]
  split
  ·exact h2.1.2
  ·exact h1.1.2
 ·have h3:=h1.2
  by_cases h0:i=0
  ·simp [h0]
  ·have hp:i - 1<p.Now.length:=by omega
   have hps:i - 1<(kC p S).length:=by omega
   rw [List.getElem?_eq_getElem hp] at h3
   rw [List.getElem?_eq_getElem hps]
   simp only [zDu h hp]
   exact h3
def qB (p:yY) (S:Nat):Bool:=p.Needs.all (eD (kC p S))
theorem zTe {p:yY} (h:iH p) {S:Nat} (hS:S<256):tG p (S:Int)=some (qB p S):=by
 unfold tG
 obtain ⟨r,a,b⟩:=gB (kC p S) p.Needs
 rw [zRF h.le8 h.len hS]
 simp only [bnd_some,a]
 unfold zIC at b
 rw [if_neg (by rw [zJA h]; simp),if_neg (by rw [h.needs]; simp)] at b
 have e:(r.2==0)=true:=by rw [b.1]; rfl
 rw [e]
 simp only [cond_true,bnd_some,b.2]
 rfl
theorem zCh {p:yY} (i:Nat):(yQ p).testBit i=(decide (i<p.Now.length)&&iF p i):=zKo _ _ _
section
variable (n F:Nat) (G:Nat→Bool)
def iQ (S i:Nat):Bool:=F.testBit i&&(!S.testBit i&&G (S|||2 ^ i))
def zBk:Nat→Nat→Option (List Nat)
 | 0,_=>none
 | k+1,S=>if S=F then some [] else (List.range n).findSome? fun i=>if iQ F G S i=true then (zBk k (S|||2 ^ i)).map (i:: ·) else none
def lst (S:Nat):Option (List Nat):=zBk n F G (F - S+1) S
def cD:Nat→List Nat→Prop
 | S, []=>S=F
 | S,i::l=>iQ F G S i=true∧cD (S|||2 ^ i) l
theorem zKL {α β:Type} {l:List α} {f g:α→Option β} (h:∀ x∈l,f x=g x):l.findSome? f=l.findSome? g:=by
 induction l with
 | nil=>rfl
 | cons x r ih=>
  rw [List.findSome?_cons,List.findSome?_cons,h x (by simp),ih fun y hy=>h y (by simp [hy])]
theorem kO {F:Nat} {G:Nat→Bool} {S i:Nat} (h:iQ F G S i=true):F.testBit i=true∧S.testBit i=false∧G (S|||2 ^ i)=true:=by
 unfold iQ at h
 simpa using h
theorem zGx (k k' S:Nat) (hs:cU S F) (h1:F - S<k) (h2:F - S<k'):zBk n F G k S=zBk n F G k' S:=by
 induction k generalizing k' S with
 | zero=>omega
 | succ k ih=>
  cases k' with
  | zero=>omega
  | succ k'=>
   unfold zBk
   by_cases he:S=F
   ·rw [if_pos he,if_pos he]
   ·rw [if_neg he,if_neg he]
    refine zKL fun i _=>?_
    by_cases hst:iQ F G S i=true
    ·rw [if_pos hst,if_pos hst]
     obtain ⟨a,b,_⟩:=kO hst
     have h3:=zOe b
     have h4:=(hs.or a).le
     rw [ih k' (S|||2 ^ i) (hs.or a) (by omega) (by omega)]
    ·rw [if_neg hst,if_neg hst]
theorem zFH {S:Nat} (hs:cU S F) (hne:S≠F):lst n F G S=(List.range n).findSome? fun i=>if iQ F G S i=true then (lst n F G (S|||2 ^ i)).map (i:: ·) else none:=by
 have hle:=hs.le
 unfold lst
 conv=>lhs; unfold zBk
 rw [if_neg hne]
 refine zKL fun i _=>?_
 by_cases hst:iQ F G S i=true
 ·rw [if_pos hst,if_pos hst]
  obtain ⟨a,b,_⟩:=kO hst
  have h3:=zOe b
  have h4:=(hs.or a).le
  rw [zGx n F G _ (F - (S|||2 ^ i)+1) _ (hs.or a) (by omega) (by omega)]
 ·rw [if_neg hst,if_neg hst]
theorem zFo:lst n F G F=some []:=by
 unfold lst zBk
 rw [if_pos rfl]
theorem zLo {β:Type} {f:Nat→Option β} {m i:Nat} {v:β} (hi:i<m) (h:f i=some v) (hn:∀ j,j<i→f j=none):(List.range m).findSome? f=some v:=by
 induction m with
 | zero=>omega
 | succ m ih=>
  rw [List.range_succ,List.findSome?_append]
  by_cases hm:i=m
  ·subst hm
   have:(List.range i).findSome? f=none:=List.findSome?_eq_none_iff.2 fun x hx=>hn x (by simpa using hx)
   rw [this]
   simp [h]
  ·rw [ih (by omega)]
   rfl
theorem zOa {β:Type} {f:Nat→Option β} {m:Nat} (hn:∀ j,j<m→f j=none):(List.range m).findSome? f=none:=
 List.findSome?_eq_none_iff.2 fun x hx=>hn x (by simpa using hx)
theorem zTH {β:Type} {f:Nat→Option β} {m:Nat} {v:β} (h:(List.range m).findSome? f=some v):∃ i,i<m∧f i=some v∧∀ j,j<i→f j=none:=by
 induction m with
 | zero=>simp at h
 | succ m ih=>
  rw [List.range_succ,List.findSome?_append] at h
  cases h1:(List.range m).findSome? f with
  | some u=>
   rw [h1] at h
   simp at h
   subst h
   obtain ⟨i,a,b,c⟩:=ih h1
   exact ⟨i,by omega,b,c⟩
  | none=>
   rw [h1] at h
   simp at h
   exact ⟨m,by omega,h,fun j hj=>List.findSome?_eq_none_iff.1 h1 j (by simpa using hj)⟩
theorem zJJ (P:Nat→Prop) (h:∀ S,cU S F→(∀ i,iQ F G S i=true→P (S|||2 ^ i))→P S):∀ S,cU S F→P S:=by
 have:∀ k S,F - S<k→cU S F→P S:=by
  intro k
  induction k with
  | zero=>intro S h1; omega
  | succ k ih=>
   intro S h1 hs
   refine h S hs fun i hst=>?_
   obtain ⟨a,b,_⟩:=kO hst
   have h3:=zOe b
   have h4:=(hs.or a).le
   exact ih _ (by omega) (hs.or a)
 exact fun S hs=>this (F - S+1) S (by omega) hs
theorem zLN (S:Nat) (hs:cU S F):∀ l,lst n F G S=some l→cD F G S l:=by
 refine zJJ F G (fun S=>∀ l,lst n F G S=some l→cD F G S l) (fun S hs ih l hl=>?_) S hs
 by_cases he:S=F
 ·subst he
  rw [zFo] at hl
  injection hl with hl
  subst hl
  rfl
 ·rw [zFH n F G hs he] at hl
  obtain ⟨i,_,h1,_⟩:=zTH hl
  split at h1
  ·rename_i hst
   rw [Option.map_eq_some_iff] at h1
   obtain ⟨r,h2,rfl⟩:=h1
   exact ⟨hst,ih i hst r h2⟩
  ·cases h1
theorem zUy {F n i:Nat} (hF:F<2 ^ n) (h:F.testBit i=true):i<n:=by
 rcases Nat.lt_or_ge i n with g | g
 ·exact g
 ·have:=Nat.testBit_lt_two_pow (Nat.lt_of_lt_of_le hF (Nat.pow_le_pow_right (by omega) g))
  rw [this] at h; cases h
end
theorem zOJ (k:IntKind) (a b:Int):(zZ k).eq a b=true↔a=b:=by
 show (a==b)=true↔a=b
 exact beq_iff_eq
def bT (n F:Nat) (G:Nat→Bool) (d:List (Int × Bool)):Prop:=∀ T:Nat,cU T F→(vJ (zZ .i64).eq d (T:Int)).getD false=true→lst n F G T=none
theorem zNT {p:yY} (h:iH p):∀ (fuel S:Nat) (d:List (Int × Bool)) (o:List Int),cU S (yQ p)→yQ p - S<fuel→o.length+(yQ p - S)≤300→bT p.Now.length (yQ p) (qB p) d→
    ∃ d',bT p.Now.length (yQ p) (qB p) d'∧zAc (yQ p:Int) p fuel d (S:Int) o=some (d',match lst p.Now.length (yQ p) (qB p) S with | some l=>(o++iz l,true) | none=>([],false))
  | 0,S,d,o,_,hf,_,_=>by omega
  | fuel+1,S,d,o,hs,hf,ho,hd=>by
    have hF:yQ p<256:=zAj h.le8
    have hle:=hs.le
    show ∃ d',_∧gM (yQ p:Int) p (zAc (yQ p:Int) p fuel) d (S:Int) o=_
    unfold gM
    by_cases he:S=yQ p
    · subst he
      have e:((yQ p:Int)==(yQ p:Int))=true:=by simp
      rw [e,zFo]
      exact ⟨d,hd,by simp⟩
    · have e : ((S : Int) == (yQ p : Int)) = false := by
        rw [beq_eq_false_iff_ne]; exact_mod_cast he
      rw [e]
      simp only [cond_false]
      have hstep:=zFH p.Now.length (yQ p) (qB p) hs he
      have key:∃ r,bnd (yE (τ:=(List (Int × Bool) × (List Int × Bool)) ⊕ (List (Int × Bool))) (fun (s1:Int × (List (Int × Bool)))=>bif decide (s1.1<(p.Now.length:Int)) then
          bnd (zCs .i64 1 s1.1) fun q1=>bnd (zEW .i64 (yQ p:Int) s1.1) fun q2=>
          bif ((rA .i64 q2 1)==0) then some (.next (IntKind.wrap .i64 (s1.1+1),s1.2)) else
          bif ((iOr .i64 (S:Int) q1)==(S:Int)) then some (.next (IntKind.wrap .i64 (s1.1+1),s1.2)) else
          bif (vJ (zZ .i64).eq s1.2 (iOr .i64 (S:Int) q1)).getD false then some (.next (IntKind.wrap .i64 (s1.1+1),s1.2)) else
          bnd (tG p (iOr .i64 (S:Int) q1)) fun r1=>bif !r1 then some (.next (IntKind.wrap .i64 (s1.1+1),s1.2)) else
          bnd (app 8 o [s1.1]) fun l1=>bnd (zAc (yQ p:Int) p fuel s1.2 (iOr .i64 (S:Int) q1) l1) fun r2=>
          bif r2.2.2 then some (.done (.inl (r2.1,r2.2.1,true))) else some (.next (IntKind.wrap .i64 (s1.1+1),r2.1))
          else some (.done (.inr s1.2))) (0,d)) (fun o2=>vB o2 fun o3=>some (nD (zZ .i64).eq o3 (S:Int) true, [],false))=some r∧
          (bT p.Now.length (yQ p) (qB p) r.1∧r.2=match lst p.Now.length (yQ p) (qB p) S with | some l=>(o++iz l,true) | none=>([],false)):=by
        refine cG (fun s=>∃ i:Nat,i≤p.Now.length∧s.1=(i:Int)∧bT p.Now.length (yQ p) (qB p) s.2∧∀ j,j<i→(if iQ (yQ p) (qB p) S j=true then (lst p.Now.length (yQ p) (qB p) (S|||2 ^ j)).map (j:: ·) else none)=none)
          (fun s=>p.Now.length - s.1.toNat)
          (fun t=>match t with
            | .inl r=>bT p.Now.length (yQ p) (qB p) r.1∧∃ l,lst p.Now.length (yQ p) (qB p) S=some l∧r.2=(o++iz l,true)
            | .inr d'=>bT p.Now.length (yQ p) (qB p) d'∧lst p.Now.length (yQ p) (qB p) S=none) ⟨0,by omega,rfl,hd,fun j hj=>by omega⟩ (fun s hI=>?_) (fun t ht=>?_)
        · obtain ⟨i, hi, h1, h2, h3⟩ := hI
          obtain ⟨s1,s2⟩:=s
          simp only at h1 h2
          subst h1
          by_cases hin:i<p.Now.length
          · have hi8 : i < 8 := by have := h.le8; omega
            have d0:decide ((i:Int)<(p.Now.length:Int))=true:=by simp; omega
            have hdv:yQ p / 2 ^ i<4611686018427387904:=Nat.lt_of_le_of_lt (Nat.div_le_self _ _) (by omega)
            have hS:S<256:=by omega
            have hw:=zR hin (by have:=h.le8; omega)
            have hnext:∀ d',bT p.Now.length (yQ p) (qB p) d'→(if iQ (yQ p) (qB p) S i=true then (lst p.Now.length (yQ p) (qB p) (S|||2 ^ i)).map (i:: ·) else none)=none→
                ∃ i':Nat,i'≤p.Now.length∧(((i+1:Nat):Int),d').1=(i':Int)∧bT p.Now.length (yQ p) (qB p) (((i+1:Nat):Int),d').2∧∀ j,j<i'→(if iQ (yQ p) (qB p) S j=true then (lst p.Now.length (yQ p) (qB p) (S|||2 ^ j)).map (j:: ·) else none)=none:=
              fun d' hd' hno=>⟨i+1,by omega,rfl,hd',fun j hj=>by
                by_cases hji:j=i
                · subst hji; exact hno
                · exact h3 j (by omega)⟩
            have hmu:∀ d':List (Int × Bool),p.Now.length - (((i+1:Nat):Int),d').1.toNat<p.Now.length - ((i:Int),s2).1.toNat:=fun d'=>by
              show p.Now.length - ((i+1:Nat):Int).toNat<p.Now.length - ((i:Nat):Int).toNat
              omega
            simp only [d0,cond_true,zXd hi8,zWQ (a:=yQ p) (i:=i) (by omega),bnd_some,zVw hdv,zSE,or1 hS hi8,zSY,hw]
            cases hb1:(yQ p).testBit i
            · refine .inl ⟨_, rfl, hnext s2 h2 ?_, hmu s2⟩
              rw [if_neg]
              unfold iQ
              simp [hb1]
            cases hb2:S.testBit i
            · simp only [Bool.not_true, cond_false]
              have hor:=zWr hS hi8
              have hsub:=hs.or hb1
              cases hb3:(vJ (zZ .i64).eq s2 (((S|||2 ^ i:Nat)):Int)).getD false
              · simp only [cond_false, zTe h hor, bnd_some]
                cases hb4:qB p (S|||2 ^ i)
                · refine .inl ⟨_, rfl, hnext s2 h2 ?_, hmu s2⟩
                  rw [if_neg]
                  unfold iQ
                  simp [hb4]
                · simp only [Bool.not_true, cond_false]
                  have hlt:=zOe hb2
                  have hle2:=hsub.le
                  have hst:iQ (yQ p) (qB p) S i=true:=by unfold iQ; simp [hb1,hb2,hb4]
                  rw [tB (by simp; omega) (by simp; omega)]
                  simp only [bnd_some]
                  obtain ⟨d',hd',hm⟩:=zNT h fuel (S|||2 ^ i) s2 (o++ [(i:Int)]) hsub (by omega) (by simp; omega) h2
                  rw [hm]
                  simp only [bnd_some]
                  cases hl:lst p.Now.length (yQ p) (qB p) (S|||2 ^ i) with
                  | none=>
                    refine .inl ⟨_,rfl,hnext d' hd' ?_,hmu d'⟩
                    rw [if_pos hst,hl]
                    rfl
                  | some l=>
                    refine .inr ⟨_,rfl,hd',i::l,?_,?_⟩
                    · rw [hstep]
                      refine zLo hin ?_ h3
                      rw [if_pos hst,hl]
                      rfl
                    · simp [iz]
              · refine .inl ⟨_, rfl, hnext s2 h2 ?_, hmu s2⟩
                have:=h2 _ hsub hb3
                rw [this]
                simp
            · refine .inl ⟨_, rfl, hnext s2 h2 ?_, hmu s2⟩
              rw [if_neg]
              unfold iQ
              simp [hb2]
          · have d0 : decide ((i : Int) < (p.Now.length : Int)) = false := by simp; omega
            rw [d0]
            refine .inr ⟨_,rfl,h2,?_⟩
            rw [hstep]
            exact zOa fun j hj=>h3 j (by omega)
        · rcases t with r | d'
          · obtain ⟨h1, l, h2, h3⟩ := ht
            refine ⟨r,rfl,h1,?_⟩
            rw [h2,h3]
          · obtain ⟨h1, h2⟩ := ht
            refine ⟨_,rfl,?_,by rw [h2]⟩
            intro T hT hg
            rw [zDn (zOJ .i64)] at hg
            by_cases hTS:(T:Int)=(S:Int)
            · have : T = S := by exact_mod_cast hTS
              subst this
              exact h2
            · rw [if_neg hTS] at hg
              exact h1 T hT hg
      obtain ⟨r,k1,k2,k3⟩:=key
      refine ⟨r.1,k2,?_⟩
      rw [k1,←k3]
def lH (p:yY):Option (List Nat):=lst p.Now.length (yQ p) (qB p) 0
theorem zCp (p:yY):wQ p=some (if tK p=0 then (match lH p with | some l=>(iz l,0) | none=>([],41)) else ([],(tK p:Int))):=by
 unfold wQ
 rw [zJG]
 simp only [bnd_some]
 by_cases hv:tK p=0
 ·have h:=zMT.1 hv
  have e:((tK p:Int) != 0)=false:=by rw [hv]; rfl
  rw [e,if_pos hv,zQD h.le8 h.len]
  simp only [cond_false,bnd_some]
  have hF:yQ p<256:=zAj h.le8
  obtain ⟨d',_,hm⟩:=zNT h bX 0 [] [] (cU.zero _) (by unfold bX; omega) (by simp; omega) (fun T _ hg=>by simp [vJ] at hg)
  have hm':zAc (yQ p:Int) p bX [] 0 []=_:=hm
  rw [hm']
  simp only [bnd_some]
  unfold lH
  cases lst p.Now.length (yQ p) (qB p) 0 <;> simp
 ·have e:((tK p:Int) != 0)=true:=by
   rw [bne_iff_ne]; exact_mod_cast hv
  rw [e,if_neg hv]
  rfl
end Go.Proofs.YtplchdlgdjcojaaGreatDoor
end
section
namespace Go.Proofs.YtplchdlgdjcojaaGreatDoor
open Go
set_option linter.unusedSimpArgs false
set_option linter.unusedVariables false
def zUe:zL:=⟨1,0,0⟩
def fO:zL:=⟨2,0,0⟩
def exA:ByteArray:=⟨#[97]⟩
def exB:ByteArray:=⟨#[98]⟩
def exP (needs:List zX):yY:=⟨[⟨exA,zUe⟩,⟨exB,zUe⟩], [⟨exA,fO⟩,⟨exB,fO⟩],needs⟩
set_option maxRecDepth 20000 in
theorem ex1:tK (exP [⟨exA,fO,exB,fO⟩])=0∧lH (exP [⟨exA,fO,exB,fO⟩])=some [1,0]:=by decide
set_option maxRecDepth 20000 in
theorem ex2:tK (exP [⟨exA,fO,exB,fO⟩,⟨exB,fO,exA,fO⟩])=0∧lH (exP [⟨exA,fO,exB,fO⟩,⟨exB,fO,exA,fO⟩])=none:=by decide
def xQ (n F:Nat):List Nat:=(List.range n).filter F.testBit
theorem zJj {F i:Nat} (hF:F<2 ^ i):∀ d,xQ (i+d) F=xQ i F
 | 0=>rfl
 | d+1=>by
  have ih:=zJj hF d
  unfold xQ at*
  rw [show i+(d+1)=(i+d)+1 by omega,List.range_succ,List.filter_append,ih]
  have:F.testBit (i+d)=false:=Nat.testBit_lt_two_pow (Nat.lt_of_lt_of_le hF (Nat.pow_le_pow_right (by omega) (by omega)))
  simp [this]
theorem zSN {F i n:Nat} (hi:F<2 ^ i) (hn:F<2 ^ n):xQ i F=xQ n F:=by
 rcases Nat.le_total i n with g | g
 ·rw [show n=i+(n - i) by omega,zJj hi]
 ·rw [show i=n+(i - n) by omega,zJj hn]
theorem iU (F i:Nat):xQ (i+1) F=if F.testBit i=true then xQ i F++ [i] else xQ i F:=by
 unfold xQ
 rw [List.range_succ,List.filter_append]
 cases h:F.testBit i <;> simp [h]
theorem zSp (p:yY):qZ p=some (if tK p=0 then iz (xQ p.Now.length (yQ p)) else []):=by
 unfold qZ
 rw [zJG]
 simp only [bnd_some]
 by_cases hv:tK p=0
 ·have h:=zMT.1 hv
  have e:((tK p:Int) != 0)=false:=by rw [hv]; rfl
  rw [e,if_pos hv,zQD h.le8 h.len]
  simp only [cond_false,bnd_some]
  have hF:yQ p<256:=zAj h.le8
  have hFn:yQ p<2 ^ p.Now.length:=zIa _ _
  have key:∃ r,bnd (yE (τ:=List Int) (fun (s1:List Int × Int × Int)=>bif decide (s1.2.2>0) then (bif ((rA .i64 s1.2.2 1)==1) then (bnd (app 8 s1.1 [s1.2.1]) fun l1=>some (.next (l1,IntKind.wrap .i64 (s1.2.1+1),vY .i64 s1.2.2 1))) else (some (.next (s1.1,IntKind.wrap .i64 (s1.2.1+1),vY .i64 s1.2.2 1)))) else (some (.done s1.1))) ([],0,(yQ p:Int))) (fun o1=>some o1)=some r∧r=iz (xQ p.Now.length (yQ p)):=by
   refine cG (fun s=>∃ i:Nat,i≤8∧s=(iz (xQ i (yQ p)),(i:Int),((yQ p / 2 ^ i:Nat):Int))) (fun s=>9 - s.2.1.toNat) (fun t=>t=iz (xQ p.Now.length (yQ p))) ⟨0,by omega,by simp [xQ]⟩ (fun s hI=>?_) (fun t ht=>⟨t,rfl,ht⟩)
   obtain ⟨i,hi,rfl⟩:=hI
   have hd1:yQ p / 2 ^ i<4611686018427387904:=Nat.lt_of_le_of_lt (Nat.div_le_self _ _) (by omega)
   by_cases hz:yQ p / 2 ^ i=0
   ·have e1:decide (((yQ p / 2 ^ i:Nat):Int)>0)=false:=by rw [hz]; rfl
    simp only [e1,cond_false]
    refine .inr ⟨_,rfl,?_⟩
    have hlt:yQ p<2 ^ i:=by
     rcases Nat.lt_or_ge (yQ p) (2 ^ i) with g | g
     ·exact g
     ·have:=Nat.div_pos g (Nat.two_pow_pos i)
      omega
    rw [zSN hlt hFn]
   ·have e1:decide (((yQ p / 2 ^ i:Nat):Int)>0)=true:=decide_eq_true (Int.natCast_pos.2 (Nat.pos_of_ne_zero hz))
    have hi8:i<8:=by
     rcases Nat.lt_or_ge i 8 with g | g
     ·exact g
     ·have:i=8:=by omega
      subst this
      have:yQ p / 2 ^ 8=0:=Nat.div_eq_of_lt (by omega)
      omega
    have hb:(rA .i64 ((yQ p / 2 ^ i:Nat):Int) 1==1)=(yQ p).testBit i:=by rw [zVw hd1,zNE]
    have hsh:vY .i64 ((yQ p / 2 ^ i:Nat):Int) 1=((yQ p / 2 ^ (i+1):Nat):Int):=by
     have:=eH (k:=.i64) (a:=yQ p / 2 ^ i) (s:=1) (by decide)
     rw [show ((1:Nat):Int)=1 from rfl] at this
     rw [this,Nat.div_div_eq_div_mul,←Nat.pow_add]
    have hw:=zR hi8 (by omega)
    have hap:app 8 (iz (xQ i (yQ p))) [(i:Int)]=some (iz (xQ i (yQ p)++ [i])):=by
     have hlen:(xQ i (yQ p)).length≤8:=Nat.le_trans (List.length_filter_le _ _) (by simp; omega)
     rw [tB (by simp; omega) (by simp; omega)]
     simp [iz]
    simp only [e1,cond_true,hb,hsh,hw]
    refine .inl ?_
    cases hbi:(yQ p).testBit i
    ·refine ⟨_,rfl,⟨i+1,by omega,?_⟩,?_⟩
     ·rw [iU,hbi]; rfl
     ·show 9 - ((i+1:Nat):Int).toNat<9 - ((i:Nat):Int).toNat
      omega
    ·simp only [cond_true,hap,bnd_some]
     refine ⟨_,rfl,⟨i+1,by omega,?_⟩,?_⟩
     ·rw [iU,hbi]; rfl
     ·show 9 - ((i+1:Nat):Int).toNat<9 - ((i:Nat):Int).toNat
      omega
  obtain ⟨r,k1,k2⟩:=key
  rw [k1,k2]
 ·have e:((tK p:Int) != 0)=true:=by
   rw [bne_iff_ne]; exact_mod_cast hv
  rw [e,if_neg hv]
  rfl
theorem zKJ {F:Nat} {G:Nat→Bool} {n:Nat} (hF:F<2 ^ n):∀ {l:List Nat} {S:Nat},cD F G S l→l.length+(xQ n S).length=(xQ n F).length
  | [],S,h=>by
    have:S=F:=h
    subst this; simp
  | i::l,S,h=>by
    obtain ⟨hst,hp⟩:=h
    obtain ⟨a,b,_⟩:=kO hst
    have hin:=zUy hF a
    have ih:=zKJ hF hp
    have key:(xQ n (S|||2 ^ i)).length=(xQ n S).length+1:=by
      have:∀ m,(xQ m (S|||2 ^ i)).length=(xQ m S).length+(if i<m then 1 else 0):=by
        intro m
        induction m with
        | zero=>simp [xQ]
        | succ m ihm=>
          rw [iU,iU,zII]
          by_cases hm:i=m
          · subst hm
            simp [b,ihm]
          · simp only [hm, decide_false, Bool.or_false]
            cases S.testBit m
            · simp only [Bool.false_eq_true, if_false, ihm]
              by_cases h1:i<m
              · rw [if_pos h1,if_pos (by omega)]
              · rw [if_neg h1,if_neg (by omega)]
            · simp only [if_true, List.length_append, ihm, List.length_singleton]
              by_cases h1:i<m
              · rw [if_pos h1,if_pos (by omega)]
              · rw [if_neg h1,if_neg (by omega)]
      rw [this n,if_pos hin]
    rw [key] at ih
    rw [List.length_cons]
    omega
theorem zAg {F:Nat} {G:Nat→Bool}:∀ {l:List Nat} {S:Nat},cD F G S l→∀ i∈l,F.testBit i=true
 | [],S,h,i,hi=>by cases hi
 | j::l,S,h,i,hi=>by
  obtain ⟨hst,hp⟩:=h
  rcases List.mem_cons.1 hi with rfl | hi
  ·exact (kO hst).1
  ·exact zAg hp i hi
end Go.Proofs.YtplchdlgdjcojaaGreatDoor
end
section
namespace Go.Proofs.YtplchdlgdjcojaaGreatDoor
open Go
set_option linter.unusedSimpArgs false
set_option linter.unusedVariables false
theorem fK {σ τ ρ:Type} {m:σ→Option (sQ σ τ)} {s0:σ} {k:τ→Option ρ} {R:ρ→Prop} (I:σ→Prop) (μ:σ→Nat) (Q:τ→Prop) (h0:I s0)
  (h:∀ s,I s→∃ r,m s=some r∧match r with | .next s'=>I s'∧μ s'<μ s | .done t=>Q t) (hk:∀ t,Q t→∃ r,k t=some r∧R r):∃ r,bnd (yE m s0) k=some r∧R r:=by
 refine cG I μ Q h0 (fun s hI=>?_) hk
 obtain ⟨r,h1,h2⟩:=h s hI
 cases r with
 | next s'=>exact .inl ⟨s',h1,h2.1,h2.2⟩
 | done t=>exact .inr ⟨t,h1,h2⟩
def lS:List ByteArray:= [⟨#[98,105,111,115]⟩,⟨#[99,112,108,100]⟩,⟨#[109,101]⟩,⟨#[112,115,117]⟩,⟨#[120,45,49]⟩,⟨#[122,122]⟩]
theorem zRC:jH=some lS:=rfl
def lL (l:List ByteArray):Bool:=decide (l.length≤8)&&(List.range l.length).all fun i=>match l[i]? with
 | some x=>lR x&&(i==0||match l[i - 1]? with | some y=>blt y x | none=>true)
 | none=>true
set_option maxRecDepth 20000 in
theorem zTk:∀ k,k<7→lL (lS.take k)=true:=by decide
set_option maxRecDepth 20000 in
theorem zVp:∀ i,i<6→lR ((lS[i]?).getD ⟨#[]⟩)=true:=by decide
structure zXm (p:yY):Prop where
 now:tF p.Now=true
 next:tF p.Next=true
 needs:kZ p.Needs=true
 names:wS p.Now=wS p.Next
 few:p.Needs.length≤6
 two:2≤p.Now.length
theorem fT {c:xS} (h:vV c) {n:Int} (hn:1≤n):∃ r,yJ c n=some r∧vV r.1∧0≤r.2∧r.2<n:=by
 obtain ⟨c',x,h1,h2,h3,h4⟩:=zTi h n
 exact ⟨(c',x),h1,h2,h3,by show x<n; omega⟩
theorem rY {α β:Type} {x:Option α} {f:α→Option β} {P:α→Prop} {R:β→Prop} (h:∃ a,x=some a∧P a) (k:∀ a,P a→∃ r,f a=some r∧R r):∃ r,bnd x f=some r∧R r:=zUG h k
theorem zBn {p:yY} {l:List Nat} (h:lH p=some l):cD (yQ p) (qB p) 0 l:=zLN _ _ _ _ (cU.zero _) l h
theorem zMC {p:yY} (hv:tK p=0) {l:List Nat} (hp:cD (yQ p) (qB p) 0 l):l.length≤8:=by
 have h:=zMT.1 hv
 have:=zKJ (F:=yQ p) (n:=p.Now.length) (zIa _ _) hp
 have h2:(xQ p.Now.length (yQ p)).length≤8:=Nat.le_trans (List.length_filter_le _ _) (by simp; exact h.le8)
 omega
end Go.Proofs.YtplchdlgdjcojaaGreatDoor
end
section
namespace Go.Proofs.YtplchdlgdjcojaaGreatDoor
open Go
set_option linter.unusedSimpArgs false
set_option linter.unusedVariables false
def zCG:List Int→Option (zE × Nat)
 | k::n::r=>if n=128 then some (⟨k, [],true⟩,2) else if n>28∨(r.length:Int)<n then none else some (⟨k,r.take n.toNat,false⟩,2+n.toNat)
 | _=>none
theorem kW (k n:Int) (r:List Int):zCG (k::n::r)=if n=128 then some (⟨k, [],true⟩,2) else if n>28∨(r.length:Int)<n then none else some (⟨k,r.take n.toNat,false⟩,2+n.toNat):=rfl
theorem zBQ {b:List Int} {x:zE} {n:Nat} (hr:rng b) (h:zCG b=some (x,n)):2≤n∧n≤b.length:=by
 match b,h with
 | k::c::r,h=>
  rw [kW] at h
  split at h
  ·injection h with h; injection h with _ h; subst h; simp
  ·split at h
   ·cases h
   ·rename_i h1
    have:=hr c (by simp)
    injection h with h; injection h with _ h; subst h
    simp only [List.length_cons]
    omega
theorem zEo {α:Type} {l:List α} {a b:Nat} (h1:a≤b) (h2:b≤l.length):Go.Proofs.YtplchdlgdjcojaaGreatDoor.sub l (a:Int) (b:Int)=some ((l.drop a).take (b - a)):=by
 unfold Go.Proofs.YtplchdlgdjcojaaGreatDoor.sub
 rw [if_pos ⟨by omega,by omega,by omega⟩]
 congr 1
 have e1:((a:Int)).toNat=a:=rfl
 have e2:((b:Int)).toNat=b:=rfl
 rw [e1,e2,List.drop_take]
def zSt (o:Option (zE × Nat)):zE × Int × Bool:=match o with | some (x,n)=>(x,(n:Int),true) | none=>(⟨0, [],false⟩,0,false)
theorem zOo {b:List Int} (hr:rng b) (hl:b.length≤16384):rG b=some (zSt (zCG b)):=by
 unfold rG
 match b,hr,hl with
 | [],_,_=>rfl
 | [k],_,_=>rfl
 | k::c::r,hr,hl=>
  have hc:=hr c (by simp)
  simp only [List.length_cons] at hl
  have e0:elt (k::c::r) 0=some k:=rfl
  have e1:elt (k::c::r) 1=some c:=rfl
  rw [yS (by simp only [List.length_cons,decide_eq_false_iff_not]; omega),e1,bnd_some,e0,kW]
  by_cases h1:c=128
  ·rw [xF (by simpa using h1),bnd_some,if_pos h1]
   rfl
  ·rw [yS (by simpa using h1),if_neg h1]
   obtain ⟨n,hn,rfl⟩:=sJ hc
   have hw:IntKind.wrap .i64 (2+IntKind.wrap .i64 (n:Int))=((2+n:Nat):Int):=by rw [yU (by omega),yP (by omega) (by omega)]; omega
   rw [hw]
   by_cases h2:(n:Int)>28
   ·rw [xF (by simpa using h2),bnd_some,cond_true,if_pos (.inl h2)]
    rfl
   ·rw [yS (by simpa using h2),bnd_some]
    by_cases h3:(r.length:Int)<(n:Int)
    ·rw [xF (by simp only [List.length_cons,decide_eq_true_eq]; omega),if_pos (.inr h3)]
     rfl
    ·rw [yS (by simp only [List.length_cons,decide_eq_false_iff_not]; omega),bnd_some,if_neg (by omega)]
     have hs:Go.Proofs.YtplchdlgdjcojaaGreatDoor.sub (k::(n:Int)::r) 2 ((2+n:Nat):Int)=some (r.take n):=by
      have:=zEo (l:=k::(n:Int)::r) (a:=2) (b:=2+n) (by omega) (by simp; omega)
      rw [Nat.add_sub_cancel_left] at this
      exact this
     rw [hs,bnd_some,lF (by simp; omega),bnd_some]
     rfl
def lK:Nat→List Int→Option (List zE × Nat)
 | 0,_=>some ([],0)
 | c+1,b=>match zCG b with
  | none=>none
  | some (x,n)=>match lK c (b.drop n) with
   | none=>none
   | some (l,m)=>some (x::l,n+m)
theorem zCK:∀ (c:Nat) {b:List Int} {l:List zE} {n:Nat},rng b→lK c b=some (l,n)→n≤b.length∧l.length=c
 | 0,b,l,n,_,h=>by injection h with h; injection h with h1 h2; subst h1; subst h2; simp
 | c+1,b,l,n,hr,h=>by
  unfold lK at h
  split at h
  ·cases h
  ·rename_i x k hk
   split at h
   ·cases h
   ·rename_i l' m hm
    injection h with h; injection h with h1 h2
    subst h1; subst h2
    have h3:=zBQ hr hk
    have h4:=zCK c (hr.drop k) hm
    simp only [List.length_drop,List.length_cons] at*
    omega
def rQ:List Int→Option (List zE × Nat)
 | []=>none
 | c::r=>if c<1∨c>32 then none else match lK c.toNat r with
  | none=>none
  | some (l,n)=>if r[n]? =some 0 then some (l,n+2) else none
theorem qO (c:Int) (r:List Int):rQ (c::r)=if c<1∨c>32 then none else match lK c.toNat r with
  | none=>none
  | some (l,n)=>if r[n]? =some 0 then some (l,n+2) else none:=rfl
theorem oF {b:List Int} {l:List zE} {n:Nat} (hr:rng b) (h:rQ b=some (l,n)):2≤n∧n≤b.length:=by
 match b,h with
 | c::r,h=>
  rw [qO] at h
  split at h
  ·cases h
  ·split at h
   ·cases h
   ·rename_i l' m hm
    split at h
    ·rename_i h0
     injection h with h; injection h with _ h; subst h
     have:=(List.getElem?_eq_some_iff.1 h0).1
     simp only [List.length_cons]
     omega
    ·cases h
def zFn (o:Option (List zE × Nat)):List zE × Int × Bool:=match o with | some (l,n)=>(l,(n:Int),true) | none=>([],0,false)
noncomputable def dB (b_p0:List Int) (x2:Int):List zE × Int × Int→Option (sQ (List zE × Int × Int) (((List zE) × Int × Bool) ⊕ (List zE × Int))):=
 (fun (s1:List zE × Int × Int)=>bif decide (s1.2.2<x2) then (bnd (Go.Proofs.YtplchdlgdjcojaaGreatDoor.sub b_p0 s1.2.1 (b_p0.length:Int)) fun l1=>bnd (rG l1) fun r1=>bif !r1.2.2 then (some (.done (.inl ([],0,false)))) else (bnd (app 40 s1.1 [r1.1]) fun l2=>some (.next (l2,IntKind.wrap .i64 (s1.2.1+r1.2.1),IntKind.wrap .u8 (s1.2.2+1))))) else (some (.done (.inr (s1.1,s1.2.1)))))
theorem zFd {b:List Int} (hr:rng b) (hl:b.length≤16384) (c:Nat) (hc:c≤32):∀ (k i at_:Nat) (acc:List zE),i+k=c→at_≤b.length→acc.length≤i→
  yE (dB b (c:Int)) (acc,(at_:Int),(i:Int))=some (match lK k (b.drop at_) with | none=>.inl ([],0,false) | some (l,n)=>.inr (acc++l,((at_+n:Nat):Int)))
 | 0,i,at_,acc,h,_,_=>by
  refine xM ?_
  unfold dB
  simp only
  rw [yS (by simp; omega)]
  simp [lK]
 | k+1,i,at_,acc,h,hat,hacc=>by
  have hsub:Go.Proofs.YtplchdlgdjcojaaGreatDoor.sub b (at_:Int) (b.length:Int)=some (b.drop at_):=by
   rw [zEo hat (Nat.le_refl _)]
   congr 1
   rw [List.take_of_length_le (by simp)]
  have hstep:dB b (c:Int) (acc,(at_:Int),(i:Int))=some (match zCG (b.drop at_) with | none=>.done (.inl ([],0,false)) | some (x,n)=>.next (acc++ [x],((at_+n:Nat):Int),((i+1:Nat):Int))):=by
   unfold dB
   simp only
   rw [xF (by simp; omega),hsub,bnd_some,zOo (hr.drop _) (by simp; omega),bnd_some]
   cases hcg:zCG (b.drop at_) with
   | none=>rfl
   | some p=>
    obtain ⟨x,n⟩:=p
    have hn:=zBQ (hr.drop _) hcg
    simp only [List.length_drop] at hn
    simp only [zSt,Bool.not_true,cond_false]
    rw [tB (by simp; omega) (by simp; omega),bnd_some,yP (by omega) (by omega),zAr (by omega) (by omega)]
    rfl
  unfold lK
  cases hcg:zCG (b.drop at_) with
  | none=>rw [hcg] at hstep; exact xM hstep
  | some p=>
   obtain ⟨x,n⟩:=p
   have hn:=zBQ (hr.drop _) hcg
   simp only [List.length_drop] at hn
   rw [hcg] at hstep
   refine tD hstep ?_
   rw [zFd hr hl c hc k (i+1) (at_+n) (acc++ [x]) (by omega) (by omega) (by simp; omega)]
   simp only [List.drop_drop]
   cases hcs:lK k (b.drop (at_+n)) with
   | none=>rfl
   | some q=>
    obtain ⟨l,m⟩:=q
    simp only [List.append_assoc,List.singleton_append]
    rw [Nat.add_assoc]
theorem zRt {b:List Int} (hr:rng b) (hl:b.length≤16384):qK b=some (zFn (rQ b)):=by
  unfold qK
  match b,hr,hl with
  | [],_,_=>rfl
  | c::r,hr,hl=>
    have hc:=hr c (by simp)
    have e0:elt (c::r) 0=some c:=rfl
    have hr':rng r:=fun x hx=>hr x (by simp [hx])
    simp only [List.length_cons] at hl
    rw [yS (by simp only [List.length_cons,beq_eq_false_iff_ne,ne_eq]; omega),e0,bnd_some,qO]
    by_cases h1:c<1
    · rw [xF (by simpa using h1), bnd_some, cond_true, if_pos (.inl h1)]
      rfl
    · rw [yS (by simpa using h1), bnd_some]
      by_cases h2:c>32
      · rw [xF (by simpa using h2), if_pos (.inr h2)]
        rfl
      · rw [yS (by simpa using h2), bnd_some, if_neg (by omega)]
        obtain ⟨n,hn,rfl⟩:=sJ hc
        have hlp:=zFd hr (by simp; omega) n (by omega) n 0 1 [] (by omega) (by simp) (by simp)
        unfold dB at hlp
        refine yD hlp ?_
        have e2:((n:Int)).toNat=n:=rfl
        rw [List.drop_succ_cons,List.drop_zero,e2]
        cases hcs:lK n r with
        | none=>rfl
        | some q=>
          obtain ⟨l,m⟩:=q
          have hm:=(zCK n hr' hcs).1
          simp only [List.nil_append,retOr_inr,List.length_cons]
          by_cases h3:1+m=r.length+1
          · rw [xF (by simp; omega), bnd_some, cond_true, if_neg (by rw [List.getElem?_eq_none (by omega)]; simp)]
            rfl
          · have hmr : m < r.length := by omega
            have e3:elt ((n:Int)::r) ((1+m:Nat):Int)=some r[m]:=by
              rw [elt_nat,Nat.add_comm,List.getElem?_cons_succ,List.getElem?_eq_getElem hmr]
            rw [yS (by simp; omega),e3,bnd_some,bnd_some,List.getElem?_eq_getElem hmr]
            by_cases h4:r[m]=0
            · rw [yS (by simpa using h4), if_pos (by rw [h4]), yP (by omega) (by omega)]
              simp only [zFn]
              congr 3
              omega
            · rw [xF (by simpa using h4), if_neg (by simpa using h4)]
              rfl
def eK (x:zE):List Int:=if x.Delete then [x.Key,128] else x.Key::IntKind.wrap .u8 (x.Value.length:Int)::x.Value
def xX (l:List zE):List Int:=IntKind.wrap .u8 (l.length:Int)::l.flatMap eK++ [0]
theorem zKh (x:zE):2≤(eK x).length∧(eK x).length≤2+x.Value.length:=by
 unfold eK
 split
 ·simp
 ·simp only [List.length_cons]
  omega
theorem zSA {l:List zE} (h:∀ x∈l,x.Value.length≤1000):(l.flatMap eK).length≤l.length*1002:=by
 induction l with
 | nil=>simp
 | cons x r ih=>
  have h1:=(zKh x).2
  have h2:=h x (by simp)
  have h3:=ih fun y hy=>h y (by simp [hy])
  simp only [List.flatMap_cons,List.length_append,List.length_cons]
  omega
theorem zHe {l:List zE} (hl:l.length≤1000) (hv:∀ x∈l,x.Value.length≤1000):rK l=some (xX l):=by
 unfold rK
 have hb:∀ i,i≤l.length→(IntKind.wrap .u8 (l.length:Int)::(l.take i).flatMap eK).length≤1+i*1002:=fun i hi=>by
  have:=zSA (l:=l.take i) fun x hx=>hv x (List.mem_of_mem_take hx)
  simp only [List.length_take,List.length_cons] at*
  rw [Nat.min_eq_left hi] at this
  omega
 refine wE (fun i=>(IntKind.wrap .u8 (l.length:Int)::(l.take i).flatMap eK,(i:Int))) l.length (IntKind.wrap .u8 (l.length:Int)::l.flatMap eK) rfl (fun i hi=>?_) ?_ ?_
 ·have h1:=hb i (by omega)
  have h2:=hv l[i] (List.getElem_mem hi)
  have h3:i*1002≤1000*1002:=Nat.mul_le_mul_right _ (by omega)
  simp only
  rw [xF (by simp; omega),yT hi,bnd_some,xC hi,List.flatMap_append]
  simp only [List.flatMap_cons,List.flatMap_nil,List.append_nil]
  have hE:∀ (z:List Int),(IntKind.wrap .u8 (l.length:Int)::((l.take i).flatMap eK++z))=(IntKind.wrap .u8 (l.length:Int)::(l.take i).flatMap eK)++z:=fun z=>rfl
  rw [hE]
  generalize hpre:IntKind.wrap .u8 (l.length:Int)::(l.take i).flatMap eK=pre at h1 ⊢
  unfold eK
  cases hd:l[i].Delete
  ·simp only [cond_false]
   rw [tB (by simp; omega) (by simp; omega),bnd_some,tB (by simp; omega) (by simp; omega),bnd_some,zR hi (by omega)]
   simp
  ·simp only [cond_true]
   rw [tB (by simp; omega) (by simp; omega),bnd_some,zR hi (by omega)]
   simp
 ·simp only
  rw [yS (by simp),List.take_length]
 ·have h1:=hb l.length (Nat.le_refl _)
  rw [List.take_length] at h1
  have h3:l.length*1002≤1000*1002:=Nat.mul_le_mul_right _ hl
  rw [tB (by simp only [List.length_cons,List.length_nil] at*; omega) (by simp only [List.length_cons,List.length_nil] at*; omega),bnd_some]
  rfl
def sV (b:List Int):Bool:=b.all fun x=>x==255
theorem zJC {b:List Int} (hl:b.length≤16384):qI b=some (sV b):=by
 unfold qI wT vK
 have hf:∀ i (h:i<b.length),(fun i:Nat=>if (b.getD i 255 != 255) then some (.inl (i:Int):Int ⊕ Unit) else none) i=if (fun x:Int=>x != 255) b[i] then some ((fun (i:Nat) (_:Int)=>(.inl (i:Int):Int ⊕ Unit)) i b[i]) else none:=fun i h=>by
  simp only [List.getD_eq_getElem?_getD,List.getElem?_eq_getElem h,Option.getD_some]
 have hL:=zDg (m:=fun (s1:Int)=>bif decide (s1<(b.length:Int)) then (bnd (elt b s1) fun x1=>bnd (sL x1) fun r1=>bif r1 then (some (.done (.inl s1:Int ⊕ Unit))) else (some (.next (IntKind.wrap .i64 (s1+1))))) else (some (.done (.inr ())))) (fun i=>(i:Int)) b.length (fun i=>if (b.getD i 255 != 255) then some (.inl (i:Int):Int ⊕ Unit) else none) (t:=.inr ()) (fun i hi=>?_) ?_
 ·have h0:((0:Nat):Int)=0:=rfl
  rw [h0] at hL
  rw [hL,bnd_some]
  rcases zAR b (fun x=>x != 255) (fun i _=>(.inl (i:Int):Int ⊕ Unit)) _ hf with ⟨i,hi,h1,_,h3⟩ | ⟨_,h2,h3⟩
  ·rw [h3]
   simp only [Option.getD_some,retOr_inl,bnd_some]
   congr 1
   have:sV b=false:=by
    unfold sV
    rw [List.all_eq_false]
    exact ⟨b[i],List.getElem_mem hi,by simpa using h1⟩
   rw [this]
   simp
  ·rw [h3]
   simp only [Option.getD_none,retOr_inr,bnd_some]
   congr 1
   have:sV b=true:=by
    unfold sV
    rw [List.all_eq_true]
    intro x hx
    simpa using h2 x hx
   rw [this]
   rfl
 ·rw [xF (by simp; omega),yT hi,bnd_some]
  unfold sL
  rw [bnd_some,List.getD_eq_getElem?_getD,List.getElem?_eq_getElem hi]
  simp only [Option.getD_some]
  by_cases hb:b[i]=255
  ·rw [yS (by simpa using hb),zR hi (by omega),if_neg (by simpa using hb)]
  ·rw [xF (by simpa using hb),if_pos (by simpa using hb)]
 ·rw [yS (by simp)]
theorem dR {b:List Int}:sV b=true↔b=List.replicate b.length 255:=by
 unfold sV
 rw [List.all_eq_true,List.eq_replicate_iff]
 simp
end Go.Proofs.YtplchdlgdjcojaaGreatDoor
end
section
namespace Go.Proofs.YtplchdlgdjcojaaGreatDoor
open Go
set_option linter.unusedSimpArgs false
set_option linter.unusedVariables false
abbrev pJ:=List (Int × List Int)
def mX (m:pJ) (k:Int):Option (List Int):=vJ (zZ .u8).eq m k
def zAN (m:pJ) (k:Int) (v:List Int):pJ:=nD (zZ .u8).eq m k v
def zBw (m:pJ) (k:Int):pJ:=zDo (zZ .u8).eq m k
def rT (m:pJ):List Int:=m.map (·.1)
theorem jY (a b:Int):(zZ .u8).eq a b=true↔a=b:=by
 show (a==b)=true↔_
 simp
theorem zOP (m:pJ) (k k':Int) (v:List Int):mX (zAN m k v) k'=if k'=k then some v else mX m k':=zDn jY m k k' v
theorem cS (x:Int × List Int) (r:pJ) (k:Int):mX (x::r) k=if k=x.1 then some x.2 else mX r k:=by
 show (bif (zZ .u8).eq k x.1 then some x.2 else vJ (zZ .u8).eq r k)=_
 by_cases h:k=x.1
 ·rw [(jY k x.1).2 h,if_pos h]; rfl
 ·have:(zZ .u8).eq k x.1=false:=by cases hc:(zZ .u8).eq k x.1; rfl; exact absurd ((jY k x.1).1 hc) h
  rw [this,if_neg h]; rfl
theorem zED (x:Int × List Int) (r:pJ) (k:Int) (v:List Int):zAN (x::r) k v=if k=x.1 then (k,v)::r else x::zAN r k v:=by
 show (bif (zZ .u8).eq k x.1 then (k,v)::r else x::nD (zZ .u8).eq r k v)=_
 by_cases h:k=x.1
 ·rw [(jY k x.1).2 h,if_pos h]; rfl
 ·have:(zZ .u8).eq k x.1=false:=by cases hc:(zZ .u8).eq k x.1; rfl; exact absurd ((jY k x.1).1 hc) h
  rw [this,if_neg h]; rfl
theorem zBl (x:Int × List Int) (r:pJ) (k:Int):zBw (x::r) k=if k=x.1 then r else x::zBw r k:=by
 show (bif (zZ .u8).eq k x.1 then r else x::zDo (zZ .u8).eq r k)=_
 by_cases h:k=x.1
 ·rw [(jY k x.1).2 h,if_pos h]; rfl
 ·have:(zZ .u8).eq k x.1=false:=by cases hc:(zZ .u8).eq k x.1; rfl; exact absurd ((jY k x.1).1 hc) h
  rw [this,if_neg h]; rfl
theorem kK (x:Int × List Int) (r:pJ):rT (x::r)=x.1::rT r:=rfl
theorem zBa {m:pJ} {k:Int}:mX m k=none↔k∉rT m:=by
 induction m with
 | nil=>simp [mX,vJ,rT]
 | cons x r ih=>
  rw [cS,kK,List.mem_cons]
  by_cases h:k=x.1
  ·simp [h]
  ·rw [if_neg h,ih]
   simp [h]
theorem zGC {m:pJ} {k x:Int} (h:x∈rT (zBw m k)):x∈rT m:=by
 induction m with
 | nil=>exact h
 | cons y r ih=>
  rw [kK,List.mem_cons]
  rw [zBl] at h
  split at h
  ·exact .inr h
  ·rw [kK,List.mem_cons] at h
   rcases h with h | h
   ·exact .inl h
   ·exact .inr (ih h)
theorem zGo {m:pJ} {k x:Int} {v:List Int} (h:x∈rT (zAN m k v)):x=k∨x∈rT m:=by
 induction m with
 | nil=>left; simpa [zAN,nD,rT] using h
 | cons y r ih=>
  rw [kK,List.mem_cons]
  rw [zED] at h
  split at h
  ·rw [kK,List.mem_cons] at h
   rcases h with h | h
   ·exact .inl h
   ·exact .inr (.inr h)
  ·rw [kK,List.mem_cons] at h
   rcases h with h | h
   ·exact .inr (.inl h)
   ·rcases ih h with h | h
    ·exact .inl h
    ·exact .inr (.inr h)
def NdK (m:pJ):Prop:=(rT m).Nodup
theorem NdK.set {m:pJ} (h:NdK m) (k:Int) (v:List Int):NdK (zAN m k v):=by
 induction m with
 | nil=>simp [NdK,zAN,nD,rT]
 | cons y r ih=>
  have h1:=List.nodup_cons.1 h
  rw [zED]
  split
  ·rename_i e
   exact List.nodup_cons.2 ⟨by rw [e]; exact h1.1,h1.2⟩
  ·rename_i e
   refine List.nodup_cons.2 ⟨fun hm=>?_,ih h1.2⟩
   rcases zGo hm with e' | hm
   ·exact e e'.symm
   ·exact h1.1 hm
theorem NdK.del {m:pJ} (h:NdK m) (k:Int):NdK (zBw m k):=by
 induction m with
 | nil=>exact h
 | cons y r ih=>
  have h1:=List.nodup_cons.1 h
  rw [zBl]
  split
  ·exact h1.2
  ·exact List.nodup_cons.2 ⟨fun hm=>h1.1 (zGC hm),ih h1.2⟩
theorem zOY {m:pJ} (h:NdK m) (k k':Int):mX (zBw m k) k'=if k'=k then none else mX m k':=by
 induction m with
 | nil=>simp [mX,zBw,zDo,vJ]
 | cons y r ih=>
  have h1:=List.nodup_cons.1 h
  have ih:=ih h1.2
  rw [zBl]
  by_cases hk:k=y.1
  ·rw [if_pos hk]
   by_cases hk':k'=k
   ·rw [if_pos hk',zBa,hk',hk]
    exact h1.1
   ·rw [if_neg hk',cS,if_neg (by rw [←hk]; exact hk')]
  ·rw [if_neg hk,cS,ih,cS]
   by_cases hk':k'=y.1
   ·rw [if_pos hk',if_neg (by rw [hk']; exact fun e=>hk e.symm),if_pos hk']
   ·rw [if_neg hk',if_neg hk']
def Asc (K:List zE):Prop:=K.Pairwise fun a b=>a.Key<b.Key
def Nd (K:List zE):Prop:=∀ x∈K,x.Delete=false
def nR (K:List zE) (k:Int):Option (List Int):=(K.find? fun x=>x.Key==k).map (·.Value)
theorem zFs (k:Int):nR [] k=none:=rfl
theorem vP (x:zE) (K:List zE) (k:Int):nR (x::K) k=if x.Key=k then some x.Value else nR K k:=by
 unfold nR
 rw [List.find?_cons]
 by_cases h:x.Key=k
 ·simp [h]
 ·have:(x.Key==k)=false:=by simpa using h
  rw [this,if_neg h]
theorem gD {K:List zE} {k:Int}:nR K k=none↔∀ x∈K,x.Key≠k:=by
 unfold nR
 rw [Option.map_eq_none_iff,List.find?_eq_none]
 simp
theorem zIx:∀ {K1 K2:List zE},Asc K1→Asc K2→Nd K1→Nd K2→(∀ k,nR K1 k=nR K2 k)→K1=K2
 | [], [],_,_,_,_,_=>rfl
 | [],b::r,_,_,_,_,h=>by
  have:=h b.Key
  rw [zFs,vP,if_pos rfl] at this
  cases this
 | a::r, [],_,_,_,_,h=>by
  have:=h a.Key
  rw [zFs,vP,if_pos rfl] at this
  cases this
 | a::r1,b::r2,h1,h2,n1,n2,h=>by
  have p1:=List.pairwise_cons.1 h1
  have p2:=List.pairwise_cons.1 h2
  have hk:a.Key=b.Key:=by
   rcases Int.lt_trichotomy a.Key b.Key with hlt | heq | hgt
   ·exfalso
    have:=h a.Key
    rw [vP,if_pos rfl,vP,if_neg (by omega)] at this
    have h3:nR r2 a.Key=none:=gD.2 fun x hx=>by have:=p2.1 x hx; omega
    rw [h3] at this
    cases this
   ·exact heq
   ·exfalso
    have:=h b.Key
    rw [vP,if_neg (by omega),vP,if_pos rfl] at this
    have h3:nR r1 b.Key=none:=gD.2 fun x hx=>by have:=p1.1 x hx; omega
    rw [h3] at this
    cases this
  have hv:a.Value=b.Value:=by
   have:=h a.Key
   rw [vP,if_pos rfl,vP,if_pos hk.symm] at this
   injection this
  have hd:a.Delete=b.Delete:=(n1 a (by simp)).trans (n2 b (by simp)).symm
  have hab:a=b:=by
   obtain ⟨ak,av,ad⟩:=a
   obtain ⟨bk,bv,bd⟩:=b
   simp only at hk hv hd
   subst hk; subst hv; subst hd
   rfl
  subst hab
  congr 1
  refine zIx p1.2 p2.2 (fun x hx=>n1 x (by simp [hx])) (fun x hx=>n2 x (by simp [hx])) fun k=>?_
  by_cases hka:a.Key=k
  ·rw [gD.2 (fun x hx=>by have:=p1.1 x hx; omega),gD.2 (fun x hx=>by have:=p2.1 x hx; omega)]
  ·have:=h k
   rwa [vP,if_neg hka,vP,if_neg hka] at this
def appK (K:List zE) (c:zE):List zE:=
 if c.Delete then K.filter fun x=>x.Key != c.Key else (K.filter fun x=>decide (x.Key<c.Key))++c::K.filter fun x=>decide (c.Key<x.Key)
def vE (K:List zE) (l:List zE):List zE:=l.foldl appK K
theorem zJv {K:List zE} (h:Asc K) (c:zE):Asc (appK K c):=by
 unfold appK
 split
 ·exact h.sublist List.filter_sublist
 ·refine List.pairwise_append.2 ⟨h.sublist List.filter_sublist,List.pairwise_cons.2 ⟨fun x hx=>?_,h.sublist List.filter_sublist⟩,fun x hx y hy=>?_⟩
  ·have:=(List.mem_filter.1 hx).2
   simpa using this
  ·have h1:=(List.mem_filter.1 hx).2
   simp only [decide_eq_true_eq] at h1
   rcases List.mem_cons.1 hy with rfl | hy
   ·exact h1
   ·have h2:=(List.mem_filter.1 hy).2
    simp only [decide_eq_true_eq] at h2
    omega
theorem zNl {K:List zE} (h:Nd K) (c:zE):Nd (appK K c):=by
 unfold appK
 split
 ·exact fun x hx=>h x (List.mem_filter.1 hx).1
 ·rename_i hc
  intro x hx
  rcases List.mem_append.1 hx with hx | hx
  ·exact h x (List.mem_filter.1 hx).1
  ·rcases List.mem_cons.1 hx with rfl | hx
   ·simpa using hc
   ·exact h x (List.mem_filter.1 hx).1
theorem aS (K:List zE) (p:zE→Bool) (k:Int) (hp:∀ x∈K,x.Key=k→p x=true):nR (K.filter p) k=nR K k:=by
 induction K with
 | nil=>rfl
 | cons y r ih=>
  have ih:=ih fun x hx=>hp x (by simp [hx])
  rw [List.filter_cons,vP]
  by_cases hy:y.Key=k
  ·rw [if_pos (hp y (by simp) hy),vP,if_pos hy,if_pos hy]
  ·rw [if_neg hy]
   split
   ·rw [vP,if_neg hy,ih]
   ·exact ih
theorem oZ (K:List zE) (p:zE→Bool) (k:Int) (hp:∀ x∈K,x.Key=k→p x=false):nR (K.filter p) k=none:=by
 rw [gD]
 intro x hx e
 have:=List.mem_filter.1 hx
 rw [hp x this.1 e] at this
 exact absurd this.2 (by decide)
theorem zJE (K L:List zE) (k:Int):nR (K++L) k=(nR K k).or (nR L k):=by
 unfold nR
 rw [List.find?_append]
 cases K.find? _ <;> rfl
theorem zHj (K:List zE) (c:zE) (k:Int):nR (appK K c) k=if k=c.Key then (if c.Delete then none else some c.Value) else nR K k:=by
 unfold appK
 by_cases hk:k=c.Key
 ·subst hk
  rw [if_pos rfl]
  split
  ·exact oZ _ _ _ fun x _ e=>by simp [e]
  ·rw [zJE,oZ _ _ _ (fun x _ e=>by simp [e]),vP,if_pos rfl]
   rfl
 ·rw [if_neg hk]
  split
  ·exact aS _ _ _ fun x _ e=>by simp [e,hk]
  ·rw [zJE,vP,if_neg (fun e=>hk e.symm)]
   by_cases hlt:k<c.Key
   ·rw [aS _ _ _ (fun x _ e=>by simp [e,hlt]),oZ _ _ _ (fun x _ e=>by simp [e]; omega)]
    cases nR K k <;> rfl
   ·rw [oZ _ _ _ (fun x _ e=>by simp [e]; omega),aS _ _ _ (fun x _ e=>by simp [e]; omega)]
    rfl
theorem zGj:∀ {l K:List zE},Asc K→Asc (vE K l)
 | [],_,h=>h
 | c::l,_,h=>zGj (l:=l) (zJv h c)
theorem zId:∀ {l K:List zE},Nd K→Nd (vE K l)
 | [],_,h=>h
 | c::l,_,h=>zId (l:=l) (zNl h c)
theorem zLa:∀ {l K:List zE} {x:zE},x∈vE K l→x∈K∨x∈l
 | [],_,_,h=>.inl h
 | c::l,K,x,h=>by
  rcases zLa (l:=l) h with h | h
  ·unfold appK at h
   split at h
   ·exact .inl (List.mem_filter.1 h).1
   ·rcases List.mem_append.1 h with h | h
    ·exact .inl (List.mem_filter.1 h).1
    ·rcases List.mem_cons.1 h with rfl | h
     ·exact .inr (by simp)
     ·exact .inl (List.mem_filter.1 h).1
  ·exact .inr (by simp [h])
def zJI (l:List zE) (k:Int) (o:Option (List Int)):Option (List Int):=l.foldl (fun o c=>if k=c.Key then (if c.Delete then none else some c.Value) else o) o
theorem zGQ:∀ (l K:List zE) (k:Int),nR (vE K l) k=zJI l k (nR K k)
 | [],_,_=>rfl
 | c::l,K,k=>by
  unfold vE zJI
  rw [List.foldl_cons,List.foldl_cons,←zHj]
  exact zGQ l (appK K c) k
def iO (ks:List Int):List Int:=ks.mergeSort fun x y=>decide (x≤y)
theorem gR (ks:List Int):(iO ks).Perm ks:=List.mergeSort_perm _ _
theorem zOh {ks:List Int} (h:ks.Nodup):(iO ks).Pairwise (· < ·):=by
 have h1:(iO ks).Pairwise fun x y=>decide (x≤y)=true:=List.pairwise_mergeSort (fun a b c h1 h2=>by simp only [decide_eq_true_eq] at*; omega) (fun a b=>by simp only [Bool.or_eq_true,decide_eq_true_eq]; omega) ks
 have h2:(iO ks).Nodup:=(gR ks).nodup_iff.2 h
 have:=h1.and h2
 refine this.imp fun hh=>?_
 simp only [decide_eq_true_eq,ne_eq] at hh
 omega
def toL (m:pJ):List zE:=(iO (rT m)).map fun k=>⟨k,(mX m k).getD [],false⟩
theorem zSn (m:pJ):Nd (toL m):=fun x hx=>by
 obtain ⟨k,_,rfl⟩:=List.mem_map.1 hx
 rfl
theorem zNN {m:pJ} (h:NdK m):Asc (toL m):=by
 unfold Asc toL
 rw [List.pairwise_map]
 exact (zOh h).imp fun h=>h
theorem zCB (m:pJ):(toL m).length=m.length:=by
 unfold toL
 rw [List.length_map,(gR _).length_eq]
 simp [rT]
theorem aI (m:pJ) (k:Int):nR (toL m) k=mX m k:=by
 have key:∀ (ks:List Int),nR (ks.map fun k=>(⟨k,(mX m k).getD [],false⟩:zE)) k=if k∈ks then some ((mX m k).getD []) else none:=by
  intro ks
  induction ks with
  | nil=>rfl
  | cons a r ih=>
   rw [List.map_cons,vP]
   by_cases h:a=k
   ·subst h; simp
   ·rw [if_neg h,ih]
    have:k≠a:=fun e=>h e.symm
    simp [this]
 unfold toL
 rw [key]
 by_cases h:k∈rT m
 ·rw [if_pos ((gR _).mem_iff.2 h)]
  cases hg:mX m k with
  | none=>exact absurd h (zBa.1 hg)
  | some v=>rfl
 ·rw [if_neg (fun hm=>h ((gR _).mem_iff.1 hm)),zBa.2 h]
def bK (m:pJ) (l:List zE):pJ:=l.foldl (fun m c=>if c.Delete then zBw m c.Key else zAN m c.Key c.Value) m
theorem zAk:∀ {l:List zE} {m:pJ},NdK m→NdK (bK m l)
 | [],_,h=>h
 | c::l,m,h=>by
  unfold bK
  rw [List.foldl_cons]
  split
  ·exact zAk (l:=l) (h.del _)
  ·exact zAk (l:=l) (h.set _ _)
theorem zEq:∀ {l:List zE} {m:pJ},NdK m→toL (bK m l)=vE (toL m) l
 | [],_,_=>rfl
 | c::l,m,h=>by
  unfold bK vE
  rw [List.foldl_cons,List.foldl_cons]
  have h1:NdK (if c.Delete=true then zBw m c.Key else zAN m c.Key c.Value):=by split; exact h.del _; exact h.set _ _
  have h2:toL (if c.Delete=true then zBw m c.Key else zAN m c.Key c.Value)=appK (toL m) c:=by
   refine zIx (zNN h1) (zJv (zNN h) c) (zSn _) (zNl (zSn _) c) fun k=>?_
   rw [aI,zHj,aI]
   split
   ·rw [zOY h]
   ·rw [zOP]
  rw [←h2]
  exact zEq (l:=l) h1
theorem zLd {l:List zE} {m:pJ} (h:NdK m):(bK m l).length=(vE (toL m) l).length:=by rw [←zEq h,zCB]
theorem zKc (m:pJ) (l:List zE) (hl:l.length≤1000000) (hv:∀ x∈l,x.Value.length≤1000000):wN (some m) l=some (some (bK m l)):=by
 unfold wN aN
 rw [bnd_some]
 refine wE (fun i=>((i:Int),some (bK m (l.take i)))) l.length (some (bK m l)) rfl (fun i hi=>?_) ?_ rfl
 ·have h2:=hv l[i] (List.getElem_mem hi)
  simp only
  rw [xF (by simp; omega),yT hi,bnd_some,xC hi,zR hi (by omega)]
  unfold bK
  rw [List.foldl_append,List.foldl_cons,List.foldl_nil]
  cases hd:l[i].Delete
  ·rw [cond_false,lF (by omega),bnd_some]
   rfl
  ·rw [cond_true]
   rfl
 ·simp only
  rw [yS (by simp),List.take_length]
theorem zOm {m:pJ} (hm:NdK m) (hl:m.length≤jC) (hv:∀ k v,mX m k=some v→v.length≤1000000):wU (some m)=some (toL m):=by
 unfold wU zDi gA
 have hsk:((some m:Option pJ).getD [])=m:=rfl
 have hlen:(iO (rT m)).length=m.length:=by rw [(gR _).length_eq]; simp [rT]
 have hks:((m.map (·.1)).mergeSort fun x y=>decide (x≤y))=iO (rT m):=rfl
 rw [bnd_some,hsk,if_pos hl,bnd_some,hks]
 have hl1:m.length≤1000:=Nat.le_trans hl zFe
 refine wE (fun i=>((toL m).take i,(i:Int))) m.length (toL m) rfl (fun i hi=>?_) ?_ rfl
 ·have hi':i<(iO (rT m)).length:=by omega
  have hit:i<(toL m).length:=by rw [zCB]; exact hi
  have hg:(toL m)[i]=⟨(iO (rT m))[i],(mX m (iO (rT m))[i]).getD [],false⟩:=by simp [toL]
  have hvl:((mX m (iO (rT m))[i]).getD []).length≤1000000:=by
   cases hh:mX m (iO (rT m))[i] with
   | none=>simp
   | some v=>exact hv _ v hh
  simp only
  rw [xF (by simp; omega),yT hi',bnd_some]
  have hcl:zQ ((vJ (zZ .u8).eq m (iO (rT m))[i]).getD [])=some ((mX m (iO (rT m))[i]).getD []):=lF hvl
  rw [hcl,bnd_some,tB (by simp; omega) (by simp; omega),bnd_some,zR hi (by omega),xC hit,hg]
 ·simp only
  rw [yS (by rw [hlen]; simp),←zCB,List.take_length]
end Go.Proofs.YtplchdlgdjcojaaGreatDoor
end
