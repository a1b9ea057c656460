/-
  Texts of this seat, put together: rules, walks, plain laws.
  Conditions: none.
-/
import Derived.Test.YtplchdlgdjcojaaGreatDoorPR4
section
namespace Go.Proofs.YtplchdlgdjcojaaGreatDoor
open Go
set_option linter.unusedVariables false
set_option maxHeartbeats 4000000
set_option maxRecDepth 4000
theorem yL {c_p0 n_p1 A1 c1 gb1 r} (h:yG c_p0 n_p1=some r):
    Fun Tryz.prog 31 [.pointer (some ⟨gb1,0,none⟩), .int .i64 n_p1] [.ro (SlL eu8 A1 c1 c_p0.L), .res (Box gb1 127 [.slice A1 c_p0.L.length c1, .int .i64 c_p0.At])] (fun v F=>∃ A2 c2,v= .int .i64 r.2∧F= [.ro (SlL eu8 A2 c2 r.1.L), .res (Box gb1 127 [.slice A2 r.1.L.length c2, .int .i64 r.1.At])]):=by
 refine Fun.intro Tryz.func31 rfl rfl rfl fun w R=>?_;refine .ab [0,1] rfl<|.seq<|.seq<|.bd h fun o1 hj1 h=>.cu 0 [0,1, .s 12 (.bool o1)] [] rfl rfl ?_ ?_
 ·refine .region<|.p rfl rfl<|.bd hj1 fun r1 hr1 hj1=>.cq 2 [1] [1] 0 (gQ hr1) zUT rfl<|.n 2 rfl<|.gs 9 hj1 rfl (fun hj1=>?_) (fun hj1=>?_)
  ·cases hj1;exact .be rfl<|.hU rfl (zl [1] 0 rfl)
  cases hj1;exact .be rfl<|.hU rfl (zl [1] 0 rfl)
 refine .cb h rfl (fun h=>?_) (fun h=>?_)
 ·refine .ab [4] rfl ?_;cases h;exact .rv rfl rfl ⟨A1,c1,rfl,rfl⟩ (zk 2 1 [1] [1] 0 rfl)
 refine .sk<|.pr [0,1] rfl<|.seq<|.regionF mixed (by kernel_rfl)<|.n 3 rfl<|.lb 0 1 rfl<|.n 3 rfl<|.lb 1 1 rfl<|.bd h fun x1 hx1 h=>.ix1 hx1 0 rfl fun b1 ob1=>.ld ob1 0 0 rfl<|.beq rfl<|.pf [0,1,5] [] 1 rfl rfl<|.a 3 rfl<|.lb 1 1 rfl<|.n 3 rfl<|.sb 1 1 rfl<|.b [0,1,5] rfl<|.seq<|.seq<|.bd h fun o2 hj2 h=>.cu 0 [0,1,5, .s 36 (.bool o2)] [] rfl rfl ?_ ?_
 ·refine .region<|.n 3 rfl<|.gs 33 hj2 rfl (fun hj2=>?_) (fun hj2=>?_)
  ·refine .n 1 rfl<|.gOn rfl rfl<|.bd hj2 fun r2 hr2 hj2=>.cq 2 [1] [] 0 (gQ hr2) zUT rfl ?_;cases hj2;exact .be rfl<|.hU rfl zw
  cases hj2;exact .be rfl<|.hU rfl zw
 refine .cb h rfl (fun h=>?_) (fun h=>?_)
 ·refine .seq<|.regionF mixed (by kernel_rfl)<|.n 4 rfl<|.lb 0 0 rfl<|.n 3 rfl<|.lb 1 0 rfl<|.bd h fun x2 hx2 h=>.ix1 hx2 1 rfl fun b2 ob2=>.ld ob2 0 0 rfl<|.beq rfl<|.pf [0,1,5] [] 1 rfl rfl<|.region<|.n 3 rfl<|.lb 1 0 rfl<|.n 3 rfl<|.sb 1 0 rfl<|.b [1,5] rfl<|.a 2 rfl<|.bd h fun q1 hq1 h=>.rem rfl rfl rfl hq1<|.b [4] rfl ?_;cases h;exact .rv rfl rfl ⟨A1,c1,rfl,rfl⟩ (zk 2 1 [1] [] 0 rfl)
 refine .sk<|.pr [1,5] rfl<|.a 2 rfl<|.bd h fun q2 hq2 h=>.rem rfl rfl rfl hq2<|.b [4] rfl ?_;cases h;exact .rv rfl rfl ⟨A1,c1,rfl,rfl⟩ (zk 2 1 [1] [] 0 rfl)
theorem zMN:Ent Tryz.prog 216:=en Tryz.func216 (by kernel_rfl)
noncomputable def nI (s_p0:ByteArray):Option Bool:=
  bnd ((bif decide ((s_p0.size:Int)<1) then (some true) else (bif decide ((s_p0.size:Int)>16) then (some true) else (bnd (eltS s_p0 0) fun y1=>bif decide (y1<97) then (some true) else (some (decide (y1>122))))):Option Bool)) fun o1=>bif o1 then (some false) else (bnd (yE (τ:=Bool ⊕ Unit) (fun (s1:Int)=>bif decide (s1<(s_p0.size:Int)) then (bnd ((bnd (eltS s_p0 s1) fun y2=>bif decide (y2≥97) then (bif decide (y2≤122) then (some false) else (bif decide (y2≥48) then (bif decide (y2≤57) then (some false) else (some (!(y2==45)))) else (some (!(y2==45))))) else (bif decide (y2≥48) then (bif decide (y2≤57) then (some false) else (some (!(y2==45)))) else (some (!(y2==45)))):Option Bool)) fun o4=>bif o4 then (some (.done (.inl false))) else (some (.next (IntKind.wrap .i64 (s1+1))))) else (some (.done (.inr ())))) 0) fun o2=>wS o2 fun o3=>some true)
theorem cH {s_p0 r} (h:nI s_p0=some r):
    Fun Tryz.prog 216 [.string s_p0] [] (Val (.bool r)):=by
 refine Fun.intro Tryz.func216 rfl rfl rfl fun w R=>?_;refine .ab [0] rfl<|.seq<|.seq<|.bd h fun o1 hj1 h=>.cu 0 [0, .s 21 (.bool o1)] [] rfl rfl ?_ ?_
 ·refine .region<|.n 4 rfl<|.gs 7 hj1 rfl (fun hj1=>?_) (fun hj1=>?_)
  ·cases hj1;exact .be rfl<|.hU rfl zw
  refine .n 5 rfl<|.gs 12 hj1 rfl (fun hj1=>?_) (fun hj1=>?_)
  ·cases hj1;exact .be rfl<|.hU rfl zw
  refine .n 1 rfl<|.gOn rfl rfl<|.bd hj1 fun y1 hy1 hj1=>.eltS rfl rfl rfl rfl rfl hy1<|.n 3 rfl<|.gs 17 hj1 rfl (fun hj1=>?_) (fun hj1=>?_)
  ·cases hj1;exact .be rfl<|.hU rfl zw
  refine .n 1 rfl<|.gOn rfl rfl<|.eltS rfl rfl rfl rfl rfl hy1 ?_;cases hj1;exact .be rfl<|.hU rfl zw
 refine .cb h rfl (fun h=>?_) (fun h=>?_)
 ·refine .ab [2] rfl ?_;cases h;exact .rv rfl rfl ⟨rfl,rfl⟩ zw
 refine .sk<|.pr [0] rfl<|.seq<|.ae rfl<|.bd h fun o2 hl1 h=>.cutJ 0 (fun (o3:Unit) (e3:Unit)=>[]) (fun o3 e3=>[]) rfl rfl (fun o3=>o2= .inr o3) ?_ ?_
 ·refine .block<|.loopQ hl1 0 (fun (s1:Int) (e2:Unit)=>[0, .s 3 (.int .i64 s1)]) (fun s1 e2=>[]) rfl rfl () (zb rfl) (fun _ w=>w) ?_;rintro s1 e2 st1 hm1 hd1 h1;refine .seq<|.ab [0,3,25] rfl<|.cb h1 rfl (fun h1=>?_) (fun h1=>?_)
  ·refine .sk<|.pr [0,3] rfl<|.seq<|.block<|.seq<|.bd h1 fun o4 hj2 h1=>.cu 0 [0,3, .s 56 (.bool o4)] [] rfl rfl ?_ ?_
   ·refine .region<|.n 2 rfl<|.bd hj2 fun y2 hy2 hj2=>.eltS rfl rfl rfl rfl rfl hy2<|.n 2 rfl<|.gs 32 hj2 rfl (fun hj2=>?_) (fun hj2=>?_)
    ·refine .n 2 rfl<|.gOn rfl rfl<|.eltS rfl rfl rfl rfl rfl hy2<|.n 3 rfl<|.gs 38 hj2 rfl (fun hj2=>?_) (fun hj2=>?_)
     ·cases hj2;exact .be rfl<|.hU rfl zw
     refine .n 2 rfl<|.gOn rfl rfl<|.eltS rfl rfl rfl rfl rfl hy2<|.n 2 rfl<|.gs 43 hj2 rfl (fun hj2=>?_) (fun hj2=>?_)
     ·refine .n 2 rfl<|.gOn rfl rfl<|.eltS rfl rfl rfl rfl rfl hy2<|.n 4 rfl<|.gs 50 hj2 rfl (fun hj2=>?_) (fun hj2=>?_)
      ·cases hj2;exact .be rfl<|.hU rfl zw
      refine .n 2 rfl<|.gOn rfl rfl<|.eltS rfl rfl rfl rfl rfl hy2 ?_;cases hj2;exact .be rfl<|.hU rfl zw
     refine .n 9 rfl<|.gOn rfl rfl<|.eltS rfl rfl rfl rfl rfl hy2 ?_;cases hj2;exact .be rfl<|.hU rfl zw
    refine .n 8 rfl<|.gOn rfl rfl<|.eltS rfl rfl rfl rfl rfl hy2<|.n 2 rfl<|.gs 43 hj2 rfl (fun hj2=>?_) (fun hj2=>?_)
    ·refine .n 2 rfl<|.gOn rfl rfl<|.eltS rfl rfl rfl rfl rfl hy2<|.n 4 rfl<|.gs 50 hj2 rfl (fun hj2=>?_) (fun hj2=>?_)
     ·cases hj2;exact .be rfl<|.hU rfl zw
     refine .n 2 rfl<|.gOn rfl rfl<|.eltS rfl rfl rfl rfl rfl hy2 ?_;cases hj2;exact .be rfl<|.hU rfl zw
    refine .n 9 rfl<|.gOn rfl rfl<|.eltS rfl rfl rfl rfl rfl hy2 ?_;cases hj2;exact .be rfl<|.hU rfl zw
   refine .cb h1 rfl (fun h1=>?_) (fun h1=>?_)
   ·refine .ab [2] rfl ?_;cases h1;cases hd1 _ rfl
    have h:some _=some _:=h;cases h;exact .rv rfl rfl ⟨rfl,rfl⟩ zw
   refine .skip<|.blkN<|.thenN<|.pr [0,3] rfl<|.region ?_;cases h1;exact .be rfl<|.ag () hm1 rfl zw
  refine .xq rfl ?_;cases h1;cases hd1 _ rfl
  exact .thenN<|.hereI () () rfl trivial zw
 rintro o3 e3 ho;subst ho;have h:=unR h;refine .ae rfl ?_;cases h;exact .rv rfl rfl ⟨rfl,rfl⟩ zw
theorem zLU:Ent Tryz.prog 217:=en Tryz.func217 (by kernel_rfl)
noncomputable def pQ (v_p0:zJ):Option Bool:=
  bnd ((bif decide (v_p0.Major≥0) then (bif decide (v_p0.Major≤999) then (bif decide (v_p0.Minor≥0) then (bif decide (v_p0.Minor≤999) then (bif decide (v_p0.Patch≥0) then (some (decide (v_p0.Patch≤999))) else (some false)) else (some false)) else (some false)) else (some false)) else (some false):Option Bool)) fun o1=>some o1
theorem eY {v_p0 r} (h:pQ v_p0=some r):
    Fun Tryz.prog 217 [.agg #[.int .i64 v_p0.Major, .int .i64 v_p0.Minor, .int .i64 v_p0.Patch]] [] (Val (.bool r)):=by
 refine Fun.intro Tryz.func217 rfl rfl rfl fun w R=>?_;refine .seq<|.region<|.box rfl rfl fun g1=>.b [1] rfl<|.seq<|.bd h fun o1 hj1 h=>.cu 1 [.s 2 (.bool o1)] [] rfl rfl ?_ ?_
 ·refine .region<|.p rfl rfl<|.lb 0 0 rfl<|.n 2 rfl<|.gs 6 hj1 rfl (fun hj1=>?_) (fun hj1=>?_)
  ·refine .n 1 rfl<|.gOn rfl rfl<|.lb 0 0 rfl<|.n 3 rfl<|.gs 11 hj1 rfl (fun hj1=>?_) (fun hj1=>?_)
   ·refine .n 1 rfl<|.gOn rfl rfl<|.lb 1 0 rfl<|.n 3 rfl<|.gs 16 hj1 rfl (fun hj1=>?_) (fun hj1=>?_)
    ·refine .n 1 rfl<|.gOn rfl rfl<|.lb 1 0 rfl<|.n 3 rfl<|.gs 21 hj1 rfl (fun hj1=>?_) (fun hj1=>?_)
     ·refine .n 1 rfl<|.gOn rfl rfl<|.lb 2 0 rfl<|.n 3 rfl<|.gs 26 hj1 rfl (fun hj1=>?_) (fun hj1=>?_)
      ·refine .n 1 rfl<|.gOn rfl rfl<|.lb 2 0 rfl ?_;cases hj1;exact .be rfl<|.hU rfl (zl [] 1 rfl)
      cases hj1;exact .be rfl<|.hU rfl (zl [] 1 rfl)
     cases hj1;exact .be rfl<|.hU rfl (zl [] 1 rfl)
    cases hj1;exact .be rfl<|.hU rfl (zl [] 1 rfl)
   cases hj1;exact .be rfl<|.hU rfl (zl [] 1 rfl)
  cases hj1;exact .be rfl<|.hU rfl (zl [] 1 rfl)
 cases h;exact .rv rfl rfl ⟨rfl,rfl⟩ zw
theorem zMJ:Ent Tryz.prog 134:=en Tryz.func134 (by kernel_rfl)
noncomputable def pR (i_p0:zI):Option Bool:=
  bnd ((bnd (nI i_p0.Name) fun r1=>bif r1 then (bnd (pQ i_p0.Version) fun r2=>bif r2 then (bif decide ((i_p0.Data.length:Int)≥1) then (some (decide ((i_p0.Data.length:Int)≤512))) else (some false)) else (some false)) else (some false):Option Bool)) fun o1=>some o1
theorem eZ {i_p0 A1 c1 r} (h:pR i_p0=some r):
    Fun Tryz.prog 134 [.agg (xF i_p0 A1 c1).toArray] [.ro (SlL eu8 A1 c1 i_p0.Data)] (Val (.bool r)):=by
 refine Fun.intro Tryz.func134 rfl rfl rfl fun w R=>?_;refine .seq<|.region<|.box rfl rfl fun g1=>.b [1] rfl<|.seq<|.bd h fun o1 hj1 h=>.cu 2 [.s 2 (.bool o1)] [] rfl rfl ?_ ?_
 ·refine .region<|.p rfl rfl<|.lb 0 0 rfl<|.bd hj1 fun r1 hr1 hj1=>.cv [] (cH hr1) zMN rfl<|.p rfl rfl<|.gs 6 hj1 rfl (fun hj1=>?_) (fun hj1=>?_)
  ·refine .n 1 rfl<|.gOn rfl rfl<|.lb 1 0 rfl<|.gOn rfl rfl<|.bd hj1 fun r2 hr2 hj1=>.cv [] (eY hr2) zLU rfl<|.n 2 rfl<|.gs 11 hj1 rfl (fun hj1=>?_) (fun hj1=>?_)
   ·refine .n 1 rfl<|.gOn rfl rfl<|.lb 4 0 rfl<|.n 4 rfl<|.gs 17 hj1 rfl (fun hj1=>?_) (fun hj1=>?_)
    ·refine .n 1 rfl<|.gOn rfl rfl<|.lb 4 0 rfl ?_;cases hj1;exact .be rfl<|.hU rfl (zl [] 2 rfl)
    cases hj1;exact .be rfl<|.hU rfl (zl [] 2 rfl)
   cases hj1;exact .be rfl<|.hU rfl (zl [] 2 rfl)
  cases hj1;exact .be rfl<|.hU rfl (zl [] 2 rfl)
 cases h;exact .rv rfl rfl ⟨rfl,rfl⟩ zw
theorem zWr:Ent Tryz.prog 135:=en Tryz.func135 (by kernel_rfl)
noncomputable def jC (i_p0:zI):Option zI:=
  bnd (app 1 ([]) i_p0.Data) fun l1=>some (⟨i_p0.Name,i_p0.Version,l1⟩:zI)
theorem zGT {i_p0 A1 c1 r} (h:jC i_p0=some r):
    Fun Tryz.prog 135 [.agg (xF i_p0 A1 c1).toArray] [.ro (SlL eu8 A1 c1 i_p0.Data)] (fun v F=>∃ A2 c2,v= .agg (xF r A2 c2).toArray∧F= [.ro (SlL eu8 A2 c2 r.Data)]):=by
 refine Fun.intro Tryz.func135 rfl rfl rfl fun w R=>?_;refine .seq<|.region<|.box rfl rfl fun g1=>.alloc rfl rfl fun g2=>.b [1,2] rfl<|.a 1 rfl<|.lb 4 1 rfl<|.asrt (fun _ w=>w.nilL eu8 5)<|.bd h fun l1 hl1 h=>.app (E:=eu8) hl1 rfl rfl rfl .z rfl rfl rfl rfl rfl rfl rfl rfl (iJ (.tail _ (.tail _ (.tail _ (.head _))))) rfl rfl fun A2 c2=>.p rfl rfl<|.sb 4 2 rfl<|.bf [1,2] [0,0,0] 1 rfl rfl<|.seq<|.region<|.lb 0 0 rfl<|.sb 0 2 rfl<|.bf [2] [0] 1 rfl rfl<|.asrt (fun _ w=>(w.sl [1] 0 rfl).meltL) ?_;cases h;exact .rt rfl Tryz.results135 (.cell rfl (.tail _ (.head _)) rfl .nil) rfl ⟨A2,c2,rfl,rfl⟩ (zk 1 2 [0] [] 0 rfl)
theorem zLR:Ent Tryz.prog 152:=en Tryz.func152 (by kernel_rfl)
noncomputable def pE (s_p0:ByteArray):Option (List Int):=
  bnd (app 1 ([IntKind.wrap .u8 (s_p0.size:Int)]) (oY s_p0)) fun l1=>some l1
theorem cT {s_p0 r} (h:pE s_p0=some r):
    Fun Tryz.prog 152 [.string s_p0] [] (fun v F=>∃ A1 c1,v= .slice A1 r.length c1∧F= [.res (zL eu8 5 A1 c1 r)]):=by
 refine Fun.intro Tryz.func152 rfl rfl rfl fun w R=>?_;refine .ab [0] rfl<|.a 3 rfl<|.bS rfl fun g1=>.p rfl rfl<|.asrt (fun _ w=>w.litL (E:=eu8) (e:=5) [IntKind.wrap .u8 (s_p0.size:Int)] rfl rfl)<|.bd h fun l1 hl1 h=>.app (E:=eu8) hl1 rfl rfl rfl .z rfl rfl rfl rfl rfl rfl rfl (by simp [oY,ByteArray.toList_eq]) (zXk s_p0) rfl rfl fun A1 c1=>.b [2] rfl ?_;cases h;exact .rv rfl rfl ⟨A1,c1,rfl,rfl⟩ zw
theorem zIA:Ent Tryz.prog 228:=en Tryz.func228 (by kernel_rfl)
noncomputable def qW (n_p0:Int):Option (List Int):=
  some ([IntKind.wrap .u8 (uB .i64 n_p0 8),IntKind.wrap .u8 n_p0])
theorem fV {n_p0 r} (h:qW n_p0=some r):
    Fun Tryz.prog 228 [.int .i64 n_p0] [] (fun v F=>∃ A1 c1,v= .slice A1 r.length c1∧F= [.res (zL eu8 5 A1 c1 r)]):=by
 unfold qW at h
 refine Fun.intro Tryz.func228 rfl rfl rfl fun w R=>?_;refine .ab [0] rfl<|.a 5 rfl<|.bS rfl fun g1=>.b [2] rfl<|.asrt (fun _ w=>w.litL (E:=eu8) (e:=5) [IntKind.wrap .u8 (uB .i64 n_p0 8),IntKind.wrap .u8 n_p0] rfl rfl) ?_;cases h;exact .rv rfl rfl ⟨(some ⟨g1,0,none⟩),([IntKind.wrap .u8 (uB .i64 n_p0 8),IntKind.wrap .u8 n_p0]:List Int).length,rfl,rfl⟩ zw
theorem zMk:Ent Tryz.prog 153:=en Tryz.func153 (by kernel_rfl)
noncomputable def uK (v_p0:zJ):Option (List Int):=
  bnd (qW v_p0.Major) fun r1=>bnd (qW v_p0.Minor) fun r2=>bnd (app 1 r1 r2) fun l1=>bnd (qW v_p0.Patch) fun r3=>bnd (app 1 l1 r3) fun l2=>some l2
theorem iE {v_p0 r} (h:uK v_p0=some r):
    Fun Tryz.prog 153 [.agg #[.int .i64 v_p0.Major, .int .i64 v_p0.Minor, .int .i64 v_p0.Patch]] [] (fun v F=>∃ A1 c1,v= .slice A1 r.length c1∧F= [.res (zL eu8 5 A1 c1 r)]):=by
 unfold uK at h
 refine Fun.intro Tryz.func153 rfl rfl rfl fun w R=>?_;refine .seq<|.region<|.box rfl rfl fun g1=>.b [1] rfl<|.seq<|.regionX (iN [0,5,12,16,28,32,11,23,27,39,43,44] .nil) _ mixed (by kernel_rfl) zw<|.yn 1 rfl<|.yx 0 0 rfl<|.yn 1 rfl<|.yl 1 0 rfl<|.yn 1 rfl<|.yl 2 0 rfl<|.xef<|.bd h fun r1 hr1 h=>.cr 2 [] [] 0 (fV hr1) zIA rfl fun A1 c1=>.xk (zl [] 1 rfl)<|.xef<|.bd h fun r2 hr2 h=>.cr 3 [] [] 0 (fV hr2) zIA rfl fun A2 c2=>.xk (zl [] 2 rfl)<|.xef<|.asrt (fun _ w=>w.meltL)<|.bd h fun l1 hl1 h=>.app (E:=eu8) hl1 rfl rfl rfl (.s .z) rfl rfl rfl rfl rfl rfl rfl rfl (iJ (.head _)) rfl rfl fun A3 c3=>.xk (zl [] 2 rfl)<|.xef<|.bd h fun r3 hr3 h=>.cr 4 [] [] 0 (fV hr3) zIA rfl fun A4 c4=>.xk (zl [] 3 rfl)<|.xef<|.asrt (fun _ w=>w.meltL)<|.bd h fun l2 hl2 h=>.app (E:=eu8) hl2 rfl rfl rfl (.s .z) rfl rfl rfl rfl rfl rfl rfl rfl (iJ (.head _)) rfl rfl fun A5 c5=>.xk (zl [] 3 rfl)<|.yn 1 rfl<|.xdone<|.thenN<|.pf [2] [0] 3 rfl rfl ?_;cases h;exact .rv rfl rfl ⟨A5,c5,rfl,rfl⟩ zw
theorem zRD:Ent Tryz.prog 150:=en Tryz.func150 (by kernel_rfl)
noncomputable def pS (i_p0:zI):Option (List Int):=
  bnd (pE i_p0.Name) fun r1=>bnd (uK i_p0.Version) fun r2=>bnd (app 1 r1 r2) fun l1=>bnd (qW (i_p0.Data.length:Int)) fun r3=>bnd (app 1 l1 r3) fun l2=>bnd (app 1 l2 i_p0.Data) fun l3=>some l3
theorem zBd {i_p0 A1 c1 r} (h:pS i_p0=some r):
    Fun Tryz.prog 150 [.agg (xF i_p0 A1 c1).toArray] [.ro (SlL eu8 A1 c1 i_p0.Data)] (fun v F=>∃ A2 c2,v= .slice A2 r.length c2∧F= [.res (zL eu8 5 A2 c2 r)]):=by
 unfold pS at h
 refine Fun.intro Tryz.func150 rfl rfl rfl fun w R=>?_;refine .seq<|.region<|.box rfl rfl fun g1=>.b [1] rfl<|.seq<|.regionX (iN [0,5,12,16,11,23,27,28] .nil) _ mixed (by kernel_rfl) zw<|.yn 1 rfl<|.yx 0 0 rfl<|.yn 1 rfl<|.yl 1 0 rfl<|.xef<|.bd h fun r1 hr1 h=>.cr 3 [] [] 0 (cT hr1) zLR rfl fun A2 c2=>.xk (zl [] 1 rfl)<|.xef<|.bd h fun r2 hr2 h=>.cr 4 [] [] 0 (iE hr2) zMk rfl fun A3 c3=>.xk (zl [] 2 rfl)<|.xef<|.asrt (fun _ w=>w.meltL)<|.bd h fun l1 hl1 h=>.app (E:=eu8) hl1 rfl rfl rfl (.s .z) rfl rfl rfl rfl rfl rfl rfl rfl (iJ (.head _)) rfl rfl fun A4 c4=>.xk (zl [] 2 rfl)<|.yn 1 rfl<|.xdone<|.thenN<|.pf [1,3] [0] 1 rfl rfl<|.a 2 rfl<|.lb 4 1 rfl<|.p rfl rfl<|.bd h fun r3 hr3 h=>.cr 4 [] [] 0 (fV hr3) zIA rfl fun A5 c5=>.asrt (fun _ w=>w.meltL)<|.bd h fun l2 hl2 h=>.app (E:=eu8) hl2 rfl rfl rfl (.s .z) rfl rfl rfl rfl rfl rfl rfl rfl (iJ (.head _)) rfl rfl fun A6 c6=>.bf [1,3] [0] 1 rfl rfl<|.a 2 rfl<|.lb 4 1 rfl<|.bd h fun l3 hl3 h=>.app (E:=eu8) hl3 rfl rfl rfl .z rfl rfl rfl rfl rfl rfl rfl rfl (iJ (.tail _ (.tail _ (.head _)))) rfl rfl fun A7 c7=>.bf [2] [0] 2 rfl rfl ?_;cases h;exact .rv rfl rfl ⟨A7,c7,rfl,rfl⟩ zw
theorem zQc:Ent Tryz.prog 154:=en Tryz.func154 (by kernel_rfl)
noncomputable def pT (b_p0:(List Int)):Option Int:=
  bnd (yE (τ:=Int) (fun (s1:Int × Int)=>bif decide (s1.2<(b_p0.length:Int)) then (bnd (elt b_p0 s1.2) fun x1=>bnd (yE (τ:=Int) (fun (s2:Int × Int)=>bif decide (s2.2<8) then (bif ((s2.1.tmod 2)==1) then (some (.next (fL .u32 (IntKind.wrap .u32 (s2.1.tdiv 2)) 3988292384,IntKind.wrap .i64 (s2.2+1)))) else (some (.next (IntKind.wrap .u32 (s2.1.tdiv 2),IntKind.wrap .i64 (s2.2+1))))) else (some (.done s2.1))) (fL .u32 s1.1 (IntKind.wrap .u32 x1),0)) fun o2=>some (.next (o2,IntKind.wrap .i64 (s1.2+1)))) else (some (.done s1.1))) (4294967295,0)) fun o1=>some (IntKind.wrap .u32 (4294967295 - o1))
theorem zBa {b_p0 A1 c1 r} (h:pT b_p0=some r):
    Fun Tryz.prog 154 [.slice A1 b_p0.length c1] [.ro (SlL eu8 A1 c1 b_p0)] (Val (.int .u32 r)):=by
 refine Fun.intro Tryz.func154 rfl rfl rfl fun w R=>?_;refine .ab [0] rfl<|.ae rfl<|.seq<|.ae rfl<|.bd h fun o1 hl1 h=>.cu 1 [.s 3 (.int .u32 o1)] [] rfl rfl ?_ ?_
 ·refine .block<|.loopQ hl1 0 (fun (s1:Int × Int) (e1:Unit)=>[0, .s 3 (.int .u32 s1.1), .s 4 (.int .i64 s1.2)]) (fun s1 e1=>[]) rfl rfl () (zb rfl) (fun _ w=>w) ?_;rintro s1 e1 st1 hm1 hd1 h1;refine .seq<|.ab [0,3,4,10] rfl<|.cb h1 rfl (fun h1=>?_) (fun h1=>?_)
  ·refine .sk<|.pr [0,3,4] rfl<|.seq<|.block<|.a 3 rfl<|.bd h1 fun x1 hx1 h1=>.ix1 hx1 0 rfl fun b1 ob1=>.ld ob1 0 0 rfl<|.bf [0,3,4] [] 1 rfl rfl<|.ae rfl<|.bd h1 fun o2 hl2 h1=>.selfThen<|.cu 0 [0, .s 3 (.int .u32 o2),4] [] rfl rfl ?_ ?_
   ·refine .block<|.loopQ hl2 0 (fun (s2:Int × Int) (e3:Unit)=>[0, .s 3 (.int .u32 s2.1),4, .s 5 (.int .i64 s2.2)]) (fun s2 e3=>[]) rfl rfl () (zb rfl) (fun _ w=>w) ?_;rintro s2 e3 st2 hm2 hd2 h2;refine .seq<|.ab [0,3,4,5,21] rfl<|.cb h2 rfl (fun h2=>?_) (fun h2=>?_)
    ·refine .sk<|.pr [0,3,4,5] rfl<|.seq<|.block<|.ab [0,3,4,5,6] rfl<|.ab [0,3,4,5,6] rfl<|.ab [0,3,4,5,29] rfl<|.cb h2 rfl (fun h2=>?_) (fun h2=>?_)
     ·refine .region<|.n 3 rfl<|.done<|.blkN<|.thenN<|.pr [0,3,4,5] rfl<|.region ?_;cases h2;exact .be rfl<|.ag () hm2 rfl zw
     refine .skip<|.blkN<|.thenN<|.pr [0,3,4,5] rfl<|.region ?_;cases h2;exact .be rfl<|.ag () hm2 rfl zw
    refine .xq rfl ?_;cases h2;cases hd2 _ rfl
    exact .thenN<|.hU rfl zw
   refine .blkN<|.thenN<|.region ?_;cases h1;exact .be rfl<|.ag () hm1 rfl zw
  refine .xq rfl ?_;cases h1;cases hd1 _ rfl
  exact .thenN<|.hU rfl (zl [] 1 rfl)
 refine .ab [2] rfl ?_;cases h;exact .rv rfl rfl ⟨rfl,rfl⟩ zw
theorem zRP:Ent Tryz.prog 136:=en Tryz.func136 (by kernel_rfl)
noncomputable def jY (i_p0:zI):Option Int:=
  bnd (pR i_p0) fun r1=>bif !r1 then (some 0) else (bnd (pS i_p0) fun r2=>bnd (pT r2) fun r3=>some r3)
theorem zDX {i_p0 A1 c1 r} (h:jY i_p0=some r):
    Fun Tryz.prog 136 [.agg (xF i_p0 A1 c1).toArray] [.ro (SlL eu8 A1 c1 i_p0.Data)] (Val (.int .u32 r)):=by
 refine Fun.intro Tryz.func136 rfl rfl rfl fun w R=>?_;refine .seq<|.region<|.box rfl rfl fun g1=>.b [1] rfl<|.seq<|.seq<|.region<|.lb 0 0 rfl<|.bd h fun r1 hr1 h=>.cv [1] (eZ hr1) zMJ rfl<|.b [1,5] rfl<|.cb h rfl (fun h=>?_) (fun h=>?_)
 ·refine .abf [2] [] 2 rfl rfl ?_;cases h;exact .rv rfl rfl ⟨rfl,rfl⟩ zw
 refine .sk<|.pr [1] rfl<|.seq<|.region<|.lb 0 0 rfl<|.bd h fun r2 hr2 h=>.cr 3 [1] [] 0 (zBd hr2) zRD rfl fun A2 c2=>.asrt (fun _ w=>w.meltL)<|.bd h fun r3 hr3 h=>.cv [0] (zBa hr3) zQc rfl<|.bf [2] [] 3 rfl rfl ?_;cases h;exact .rv rfl rfl ⟨rfl,rfl⟩ zw
theorem zXm:Ent Tryz.prog 56:=en Tryz.func56 (by kernel_rfl)
noncomputable def fY (i_p0:zI):Option (zB × Int):=
  bnd (pR i_p0) fun r1=>bif !r1 then (some ((⟨⟨#[]⟩,(⟨(⟨(⟨⟨#[]⟩,(⟨0,0,0⟩:zJ), []⟩:zI),0⟩:yF),(⟨(⟨⟨#[]⟩,(⟨0,0,0⟩:zJ), []⟩:zI),0⟩:yF)⟩:(qS yF)),0,0,false⟩:zB),1)) else (bnd (jC i_p0) fun r2=>bnd (jY i_p0) fun r3=>some ((⟨i_p0.Name,(⟨(⟨r2,r3⟩:yF),(⟨(⟨⟨#[]⟩,(⟨0,0,0⟩:zJ), []⟩:zI),0⟩:yF)⟩:(qS yF)),0,0,false⟩:zB),0))
theorem zJZ {i_p0 A1 c1 r} (h:fY i_p0=some r):
    Fun Tryz.prog 56 [.agg (xF i_p0 A1 c1).toArray] [.ro (SlL eu8 A1 c1 i_p0.Data)] (fun v F=>∃ A2 c2 A3 c3,v= .tuple #[.agg (zO r.1 A2 c2 A3 c3).toArray, .int .i64 r.2]∧F= [.ro (SlL eu8 A2 c2 r.1.Slots.e0.Image.Data), .ro (SlL eu8 A3 c3 r.1.Slots.e1.Image.Data)]):=by
 refine Fun.intro Tryz.func56 rfl rfl rfl fun w R=>?_;refine .seq<|.region<|.box rfl rfl fun g1=>.alloc rfl rfl fun g2=>.b [1,2] rfl<|.seq<|.seq<|.region<|.lb 0 1 rfl<|.bd h fun r1 hr1 h=>.cv [2] (eZ hr1) zMJ rfl<|.b [1,2,7] rfl<|.cb h rfl (fun h=>?_) (fun h=>?_)
 ·refine .a 1 rfl<|.sb 0 0 rfl<|.bf [2,3] [0] 2 rfl rfl<|.asrt (fun _ w=>w.nilSl (cod eu8))<|.asrt (fun _ w=>w.nilSl (cod eu8)) ?_;cases h;exact .rt rfl Tryz.results56 (.cell rfl (.tail _ (.tail _ (.head _))) rfl (.tmp rfl .nil)) rfl ⟨none,0,none,0,rfl,rfl⟩ (zk 2 3 [0,0] [] 0 rfl)
 refine .sk<|.pr [1,2] rfl<|.a 1 rfl<|.lb 0 1 rfl<|.p rfl rfl<|.alloc rfl rfl fun g3=>.sb 0 0 rfl<|.b [1,2,4] rfl<|.seq<|.regionX (iN [1,8,20,7,14,16,24,31] .nil) _ mixed (by kernel_rfl) (zl [] 1 rfl)<|.yx 0 2 rfl<|.yl 0 1 rfl<|.yn 1 rfl<|.xef<|.bd h fun r2 hr2 h=>.cr 5 [3] [] 0 (zGT hr2) zWr rfl fun A2 c2=>.xk (zl [] 2 rfl)<|.bd h fun r3 hr3 h=>.xqc (fun _ h=>h) (zDX hr3) zRP rfl rfl rfl rfl (za [2] rfl)<|.yn 2 rfl<|.xef<|.sb 1 1 rfl<|.xk (zl [] 2 rfl)<|.xdone<|.thenN<|.pf [2,4] [0,0,0] 2 rfl rfl<|.seq<|.region<|.lb 0 0 rfl<|.sb 0 2 rfl<|.bf [2,3] [0] 1 rfl rfl<|.asrt (fun _ w=>w.nilSl (cod eu8)) ?_;cases h;exact .rt rfl Tryz.results56 (.cell rfl (.tail _ (.head _)) rfl (.tmp rfl .nil)) rfl ⟨A2,c2,none,0,rfl,rfl⟩ (zk 2 3 [2,0] [] 0 rfl)
theorem zXd:Ent Tryz.prog 12:=en Tryz.func12 (by kernel_rfl)
noncomputable def sV (c_p0:xQ) (most:Int):Option (xQ × (List zB)):=
  bnd (jH) fun r1=>bnd (yG c_p0 most) fun r2=>bnd (sub r1 0 (IntKind.wrap .i64 (1+r2.2))) fun l1=>bnd (yE (τ:=List zB × List Int × Int) (fun (s1:List zB × Int × List Int × Int)=>bif decide (s1.2.1<(l1.length:Int)) then (bnd (elt l1 s1.2.1) fun x1=>bnd (yG (⟨s1.2.2.1,s1.2.2.2⟩:xQ) 5) fun r3=>bnd (yG r3.1 4) fun r4=>bnd (fY (⟨x1,(⟨IntKind.wrap .i64 (1+(IntKind.wrap .i64 (r3.2.tdiv 4))),0,0⟩:zJ), [IntKind.wrap .u8 r4.2]⟩:zI)) fun r5=>bnd (app 184 s1.1 [r5.1]) fun l2=>some (.next (l2,IntKind.wrap .i64 (s1.2.1+1),r4.1.L,r4.1.At))) else (some (.done (s1.1,s1.2.2.1,s1.2.2.2)))) ([],0,r2.1.L,r2.1.At)) fun o1=>some ((⟨o1.2.1,o1.2.2⟩:xQ),o1.1)
theorem bV {c_p0 most A1 c1 gb1 r} (h:sV c_p0 most=some r):
    Fun Tryz.prog 12 [.pointer (some ⟨gb1,0,none⟩), .int .i64 most] [.ro (SlL eu8 A1 c1 c_p0.L), .res (Box gb1 127 [.slice A1 c_p0.L.length c1, .int .i64 c_p0.At])] (fun v F=>∃ A2 c2 A3 c3,v= .slice A3 r.2.length c3∧F= [.ro (SlL eu8 A2 c2 r.1.L), .res (Box gb1 127 [.slice A2 r.1.L.length c2, .int .i64 r.1.At]), .res (xH (yJ zE) 64 A3 c3 r.2)]):=by
 refine Fun.intro Tryz.func12 rfl rfl rfl fun w R=>?_;refine .ab [0,1] rfl<|.ae rfl<|.seq<|.seq<|.region<|.bd h fun r1 hr1 h=>.cr 3 [] [] 0 (zGN hr1) zWW rfl fun A2 c2=>.n 2 rfl<|.bd h fun r2 hr2 h=>.cr 4 [2] [2] 0 (yL hr2) kM rfl fun A3 c3=>.p rfl rfl<|.asrt (fun _ w=>(w.sl [2] 0 rfl).meltL)<|.bd h fun l1 hl1 h=>.sub (E:=(cod zVs)) rfl rfl (.head _) rfl rfl rfl rfl rfl rfl rfl hl1 fun A4 c4=>.bf [0,5,15,16,17] [0,1,1] 2 rfl rfl<|.asrt (fun _ w=>w.nilC (yJ zE) 64)<|.bd h fun o1 hl1 h=>.cutK 4 (fun (e2:Option Addr × Nat × Option Addr × Nat)=>[.s 5 (.slice e2.1 o1.1.length e2.2.1)]) (fun e2=>[.ro (SlL eu8 e2.2.2.1 e2.2.2.2 o1.2.1), .res (xH (yJ zE) 64 e2.1 e2.2.1 o1.1), .res (Box gb1 127 [.slice e2.2.2.1 o1.2.1.length e2.2.2.2, .int .i64 o1.2.2])]) rfl rfl ?_ ?_
 ·refine .block<|.loopQ hl1 4 (fun (s1:List zB × Int × List Int × Int) (e1:Option Addr × Nat × Option Addr × Nat)=>[0, .s 5 (.slice e1.1 s1.1.length e1.2.1),15,16, .s 17 (.int .i64 s1.2.1)]) (fun s1 e1=>[.ro (SlL eu8 e1.2.2.1 e1.2.2.2 s1.2.2.1), .res (xH (yJ zE) 64 e1.1 e1.2.1 s1.1),1, .res (Box gb1 127 [.slice e1.2.2.1 s1.2.2.1.length e1.2.2.2, .int .i64 s1.2.2.2])]) rfl rfl (none,0,A3,c3) (zb rfl) (zl [2] 0 rfl) ?_;rintro s1 ⟨A5,c5,A6,c6⟩ st1 hm1 hd1 h1;refine .ae rfl<|.seq<|.cb h1 rfl (fun h1=>?_) (fun h1=>?_)
  ·refine .sk<|.pr [0,5,15,16,17] rfl<|.seq<|.block<|.seq<|.region<|.bd h1 fun x1 hx1 h1=>.ix1 hx1 2 rfl fun b1 ob1=>.ld ob1 0 0 rfl<|.bf [0,5,7,15,16,17] [] 1 rfl rfl<|.a 2 rfl<|.bd h1 fun r3 hr3 h1=>.cr 5 [1] [3] 0 (yL hr3) kM rfl fun A9 c9=>.n 4 rfl<|.bd h1 fun r4 hr4 h1=>.cr 6 [1] [1] 0 (yL hr4) kM rfl fun A10 c10=>.p rfl rfl<|.bS rfl fun g1=>.p rfl rfl<|.asrt (fun _ w=>w.litL (E:=eu8) (e:=5) [IntKind.wrap .u8 r4.2] rfl rfl)<|.asrt (fun _ w=>w.meltL)<|.bd h1 fun r5 hr5 h1=>.ct 9 [0] [] 0 (zJZ hr5) zXm rfl fun A11 c11 A12 c12=>.n 3 rfl<|.alloc rfl rfl fun g2=>.sb 0 0 rfl<|.bf [0,5,8,15,16,17] [0,0,0,1,1] 3 rfl rfl<|.region<|.p rfl rfl<|.lb 0 0 rfl<|.bS rfl fun g3=>.bd h1 fun l2 hl2 h1=>.appC (E:=(yJ zE)) hl2 rfl rfl rfl (.s (.s (.s (.s (.s (.s .z)))))) rfl rfl rfl rfl rfl rfl rfl rfl (zDK (ls:=zE) [(r5.1,((A11,c11),((A12,c12),())))] (.head _) rfl rfl rfl ⟨(zm 2 rfl),(zm 3 rfl),trivial⟩) rfl rfl fun A13 c13=>.p rfl rfl<|.done<|.blkN<|.thenN<|.pf [0,5,15,16,17] [0] 4 rfl rfl<|.region ?_;cases h1;exact .be rfl<|.ag (A13,c13,A10,c10) hm1 rfl (zl [1,0,1] 0 rfl)
  refine .xq rfl ?_;cases h1;cases hd1 _ rfl
  exact .thenN<|.hE (A5,c5,A6,c6) rfl (zl [0,0] 1 rfl)
 rintro ⟨A7,c7,A8,c8⟩;refine .ab [4] rfl ?_;cases h;exact .rv rfl rfl ⟨A8,c8,A7,c7,rfl,rfl⟩ (zk 3 1 [2] [2,1] 0 rfl)
theorem zWK:Ent Tryz.prog 13:=en Tryz.func13 (by kernel_rfl)
noncomputable def jJ (c_p0:xQ) (l_p1:(List zB)):Option (xQ × (List zU)):=
  bnd (yG c_p0 4) fun r1=>bnd (yE (τ:=List zU × List Int × Int) (fun (s1:List zU × Int × List Int × Int)=>bnd ((bif decide (s1.2.1>0) then (some (decide ((l_p1.length:Int)>1))) else (some false):Option Bool)) fun o2=>bif o2 then (bnd (yG (⟨s1.2.2.1,s1.2.2.2⟩:xQ) (l_p1.length:Int)) fun r2=>bnd (yG r2.1 (l_p1.length:Int)) fun r3=>bnd (elt l_p1 r2.2) fun x1=>bnd (elt l_p1 r3.2) fun x2=>bnd (yG r3.1 2) fun r4=>bif (r2.2 != r3.2) then (bnd (app 80 s1.1 [(⟨x1.Name,(⟨2,0,0⟩:zJ),x2.Name,(⟨IntKind.wrap .i64 (1+r4.2),0,0⟩:zJ)⟩:zU)]) fun l1=>some (.next (l1,IntKind.wrap .i64 (s1.2.1 - 1),r4.1.L,r4.1.At))) else (some (.next (s1.1,IntKind.wrap .i64 (s1.2.1 - 1),r4.1.L,r4.1.At)))) else (some (.done (s1.1,s1.2.2.1,s1.2.2.2)))) ([],r1.2,r1.1.L,r1.1.At)) fun o1=>some ((⟨o1.2.1,o1.2.2⟩:xQ),o1.1)
theorem zGz {c_p0 l_p1 A1 c1 A2 c2 gb1 r} (h:jJ c_p0 l_p1=some r):
    Fun Tryz.prog 13 [.pointer (some ⟨gb1,0,none⟩), .slice A2 l_p1.length c2] [.ro (SlL eu8 A1 c1 c_p0.L), .ro (Sl (yJ zE) A2 c2 l_p1), .res (Box gb1 127 [.slice A1 c_p0.L.length c1, .int .i64 c_p0.At])] (fun v F=>∃ A3 c3 A4 c4,v= .slice A4 r.2.length c4∧F= [.ro (SlL eu8 A3 c3 r.1.L), .res (Box gb1 127 [.slice A3 r.1.L.length c3, .int .i64 r.1.At]), .res (zL zP 123 A4 c4 r.2)]):=by
 refine Fun.intro Tryz.func13 rfl rfl rfl fun w R=>?_;refine .ab [0,1] rfl<|.ae rfl<|.seq<|.a 1 rfl<|.bd h fun r1 hr1 h=>.cr 4 [1] [2] 0 (yL hr1) kM rfl fun A3 c3=>.bf [0,1,5,6] [0,0] 1 rfl rfl<|.asrt (fun _ w=>w.nilL zP 123)<|.bd h fun o1 hl1 h=>.cutK 4 (fun (e2:Option Addr × Nat × Option Addr × Nat)=>[.s 5 (.slice e2.1 o1.1.length e2.2.1)]) (fun e2=>[.ro (SlL eu8 e2.2.2.1 e2.2.2.2 o1.2.1), .res (zL zP 123 e2.1 e2.2.1 o1.1), .res (Box gb1 127 [.slice e2.2.2.1 o1.2.1.length e2.2.2.2, .int .i64 o1.2.2])]) rfl rfl ?_ ?_
 ·refine .block<|.loopQ hl1 3 (fun (s1:List zU × Int × List Int × Int) (e1:Option Addr × Nat × Option Addr × Nat)=>[0,1, .s 5 (.slice e1.1 s1.1.length e1.2.1), .s 6 (.int .i64 s1.2.1)]) (fun s1 e1=>[.ro (SlL eu8 e1.2.2.1 e1.2.2.2 s1.2.2.1), .res (zL zP 123 e1.1 e1.2.1 s1.1), .res (Box gb1 127 [.slice e1.2.2.1 s1.2.2.1.length e1.2.2.2, .int .i64 s1.2.2.2])]) rfl rfl (none,0,A3,c3) (zb rfl) (zl [1] 0 rfl) ?_;rintro s1 ⟨A4,c4,A5,c5⟩ st1 hm1 hd1 h1;refine .seq<|.seq<|.bd h1 fun o2 hj1 h1=>.cu 0 [0,1,5,6, .s 18 (.bool o2)] [] rfl rfl ?_ ?_
  ·refine .region<|.n 3 rfl<|.gs 14 hj1 rfl (fun hj1=>?_) (fun hj1=>?_)
   ·cases hj1;exact .be rfl<|.hU rfl zw
   cases hj1;exact .be rfl<|.hU rfl zw
  refine .cb h1 rfl (fun h1=>?_) (fun h1=>?_)
  ·refine .sk<|.pr [0,1,5,6] rfl<|.seq<|.block<|.a 3 rfl<|.bd h1 fun r2 hr2 h1=>.cr 5 [1] [2] 0 (yL hr2) kM rfl fun A8 c8=>.n 3 rfl<|.bd h1 fun r3 hr3 h1=>.cr 6 [1] [1] 0 (yL hr3) kM rfl fun A9 c9=>.bf [0,1,5,6,7,8] [0,0] 2 rfl rfl<|.seq<|.bd h1 fun x1 hx1 h1=>.openN (zm 3 rfl) hx1 fun b1 ob1 ex1 hqb1=>?_;obtain ⟨⟨A10,c10⟩,⟨⟨A11,c11⟩,_⟩⟩:=ex1;refine .nm 7 rfl<|.bd h1 fun x2 hx2 h1=>.openN (zm 6 rfl) hx2 fun b2 ob2 ex2 hqb2=>?_;obtain ⟨⟨A12,c12⟩,⟨⟨A13,c13⟩,_⟩⟩:=ex2;refine .nm 10 rfl<|.bd h1 fun r4 hr4 h1=>.regionX (iN [0,4,8,12,16,20,24,28,32,36,40,44] (.alt (iN [51,52,56,60] (iN [67] (iN [71] .nil))) (iN [67] (iN [51,52,56,60] (iN [71] .nil))))) _ mixed (by kernel_rfl) (zl [0,0,0,0,0,0,0] 1 rfl)<|.shareK (Y:=?Ynd1_0) 8 (fun (e:Nat × Option Addr × Nat)=>[0,1,5,6,7,8, .s 9 (.pointer (some ⟨e.1,0,none⟩)), .s 33 (.string x1.Name), .s 34 (.agg #[.int .i64 2, .int .i64 0, .int .i64 0]), .s 39 (.string x2.Name), .s 41 (.int .i64 r4.2), .s 42 (.int .i64 (IntKind.wrap .i64 (1+r4.2))), .s 43 (.agg #[.int .i64 (IntKind.wrap .i64 (1+r4.2)), .int .i64 0, .int .i64 0]), .s 44 (.agg #[.string x1.Name, .int .i64 2, .int .i64 0, .int .i64 0, .string x2.Name, .int .i64 (IntKind.wrap .i64 (1+r4.2)), .int .i64 0, .int .i64 0])]) (fun e=>[.res (Box e.1 123 [.string (⟨#[]⟩), .int .i64 0, .int .i64 0, .int .i64 0, .string (⟨#[]⟩), .int .i64 0, .int .i64 0, .int .i64 0]), .ro (SlL eu8 e.2.1 e.2.2 r4.1.L), .res (Box gb1 127 [.slice e.2.1 r4.1.L.length e.2.2, .int .i64 r4.1.At]),0,1,2,3,4,5,6]) rfl rfl (fun hnd1_0=>?mnd1_0) ?tnd1_0
   case mnd1_0=>
    refine .yn 2 rfl<|.xfl (fun _ h=>h) (Rd.ixN hqb1 hx1 rfl rfl rfl rfl rfl rfl rfl) rfl<|.yn 1 rfl<|.xfl (fun _ h=>h) (Rd.load ob1 0 rfl (zm 3 rfl) rfl rfl) rfl<|.yn 3 rfl<|.xfl (fun _ h=>h) (Rd.ixN hqb2 hx2 rfl rfl rfl rfl rfl rfl rfl) rfl<|.yn 1 rfl<|.xfl (fun _ h=>h) (Rd.load ob2 0 rfl (.head _) rfl rfl) rfl<|.yn 1 rfl<|.xalt ?_ ?_
    ·refine .xef<|.cr 11 [7] [7] 0 (yL hr4) kM rfl fun A14 c14=>.xk (zl [] 2 rfl)<|.yn 3 rfl<|.xef<|.alloc rfl rfl fun g1=>.xk (zl [] 3 rfl) ?_;refine hnd1_0 _ _ (g1,A14,c14) ?_ ?_
     ·exact ⟨rfl,rfl,rfl,rfl,rfl,rfl,rfl,rfl,rfl,rfl,rfl,rfl,rfl,rfl,trivial⟩
     exact fun _ w=>w
    refine .xef<|.alloc rfl rfl fun g1=>.xk (zl [1,1,1,1,1,1,1] 2 rfl)<|.xef<|.cr 12 [8] [8] 0 (yL hr4) kM rfl fun A14 c14=>.xk (zl [] 3 rfl)<|.yn 3 rfl ?_;refine hnd1_0 _ _ (g1,A14,c14) ?_ ?_
    ·exact ⟨rfl,rfl,rfl,rfl,rfl,rfl,rfl,rfl,rfl,rfl,rfl,rfl,rfl,rfl,trivial⟩
    exact fun _ w=>(w.sl [2] 0 rfl)
   case tnd1_0=>
    rintro ⟨g1,A14,c14⟩;refine .nm 12 rfl<|.xef<|.sb 0 0 rfl<|.xk (zl [] 3 rfl)<|.xdone<|.thenN<|.pf [0,1,5,6,7,8,9] [0,0,0] 7 rfl rfl<|.ab [0,1,5,6,9,47] rfl<|.cb h1 rfl (fun h1=>?_) (fun h1=>?_)
    ·refine .region<|.p rfl rfl<|.lb 0 0 rfl<|.bS rfl fun g2=>.bd h1 fun l1 hl1 h1=>.app (E:=zP) hl1 rfl rfl rfl (.s (.s (.s (.s .z)))) rfl rfl rfl rfl rfl rfl rfl rfl (eN (.head _) rfl rfl) rfl rfl fun A15 c15=>.p rfl rfl<|.done<|.blkN<|.thenN<|.pf [0,1,5,6] [0] 2 rfl rfl<|.region ?_;cases h1;exact .be rfl<|.ag (A15,c15,A14,c14) hm1 rfl (zl [1] 0 rfl)
    refine .skip<|.blkN<|.thenN<|.pf [0,1,5,6] [] 1 rfl rfl<|.region ?_;cases h1;exact .be rfl<|.ag (A4,c4,A14,c14) hm1 rfl (zl [0,1] 0 rfl)
  refine .xq rfl ?_;cases h1;cases hd1 _ rfl
  exact .thenN<|.hE (A4,c4,A5,c5) rfl (zl [0,0,0] 1 rfl)
 rintro ⟨A6,c6,A7,c7⟩;refine .ab [4] rfl ?_;cases h;exact .rv rfl rfl ⟨A7,c7,A6,c6,rfl,rfl⟩ (zk 3 1 [2] [2,1] 0 rfl)
theorem zVU:Ent Tryz.prog 227:=en Tryz.func227 (by kernel_rfl)
noncomputable def jM (l_p0:(List zU)):Option Bool:=
  bif decide ((l_p0.length:Int)>16) then (some false) else (bnd (yE (τ:=Bool ⊕ Unit) (fun (s1:Int)=>bif decide (s1<(l_p0.length:Int)) then (bnd ((bnd (elt l_p0 s1) fun x1=>bnd (nI x1.Component) fun r1=>bif !r1 then (some true) else (bnd (nI x1.On) fun r2=>bif !r2 then (some true) else (bif (x1.Component.toList==x1.On.toList) then (some true) else (bnd (pQ x1.From) fun r3=>bif !r3 then (some true) else (bnd (pQ x1.At) fun r4=>some (!r4))))):Option Bool)) fun o3=>bif o3 then (some (.done (.inl false))) else (some (.next (IntKind.wrap .i64 (s1+1))))) else (some (.done (.inr ())))) 0) fun o1=>wS o1 fun o2=>some true)
theorem zGt {l_p0 A1 c1 r} (h:jM l_p0=some r):
    Fun Tryz.prog 227 [.slice A1 l_p0.length c1] [.ro (SlL zP A1 c1 l_p0)] (Val (.bool r)):=by
 refine Fun.intro Tryz.func227 rfl rfl rfl fun w R=>?_;refine .ab [0] rfl<|.seq<|.ab [0,6] rfl<|.cb h rfl (fun h=>?_) (fun h=>?_)
 ·refine .abf [2] [] 1 rfl rfl ?_;cases h;exact .rv rfl rfl ⟨rfl,rfl⟩ zw
 refine .sk<|.pr [0] rfl<|.seq<|.ae rfl<|.bd h fun o1 hl1 h=>.cutJ 1 (fun (o2:Unit) (e2:Unit)=>[]) (fun o2 e2=>[]) rfl rfl (fun o2=>o1= .inr o2) ?_ ?_
 ·refine .block<|.loopQ hl1 0 (fun (s1:Int) (e1:Unit)=>[0, .s 3 (.int .i64 s1)]) (fun s1 e1=>[]) rfl rfl () (zb rfl) (fun _ w=>w) ?_;rintro s1 e1 st1 hm1 hd1 h1;refine .seq<|.ab [0,3,10] rfl<|.cb h1 rfl (fun h1=>?_) (fun h1=>?_)
  ·refine .sk<|.pr [0,3] rfl<|.seq<|.block<|.seq<|.bd h1 fun o3 hj1 h1=>.cu 0 [0,3, .s 59 (.bool o3)] [] rfl rfl ?_ ?_
   ·refine .regionF mixed (by kernel_rfl)<|.n 2 rfl<|.bd hj1 fun x1 hx1 hj1=>.ix1 hx1 0 rfl fun b1 ob1=>.p rfl rfl<|.ld ob1 0 0 rfl<|.bd hj1 fun r1 hr1 hj1=>.cv [] (cH hr1) zMN rfl<|.n 2 rfl<|.gs 20 hj1 rfl (fun hj1=>?_) (fun hj1=>?_)
    ·cases hj1;exact .beq rfl<|.hU rfl (zl [] 1 rfl)
    refine .n 2 rfl<|.gOn rfl rfl<|.ix1 hx1 1 rfl fun b2 ob2=>.n 1 rfl<|.gOn rfl rfl<|.ld ob2 4 0 rfl<|.gOn rfl rfl<|.bd hj1 fun r2 hr2 hj1=>.cv [] (cH hr2) zMN rfl<|.n 3 rfl<|.gs 29 hj1 rfl (fun hj1=>?_) (fun hj1=>?_)
    ·cases hj1;exact .beq rfl<|.hU rfl (zl [] 2 rfl)
    refine .n 2 rfl<|.gOn rfl rfl<|.ix1 hx1 2 rfl fun b3 ob3=>.n 1 rfl<|.gOn rfl rfl<|.ld ob3 0 0 rfl<|.n 2 rfl<|.gOn rfl rfl<|.ix1 hx1 3 rfl fun b4 ob4=>.n 1 rfl<|.gOn rfl rfl<|.ld ob4 4 0 rfl<|.n 3 rfl<|.gs 42 hj1 rfl (fun hj1=>?_) (fun hj1=>?_)
    ·cases hj1;exact .beq rfl<|.hU rfl (zl [] 4 rfl)
    refine .n 2 rfl<|.gOn rfl rfl<|.ix1 hx1 4 rfl fun b5 ob5=>.n 1 rfl<|.gOn rfl rfl<|.ld ob5 1 0 rfl<|.gOn rfl rfl<|.bd hj1 fun r3 hr3 hj1=>.cv [] (eY hr3) zLU rfl<|.n 3 rfl<|.gs 51 hj1 rfl (fun hj1=>?_) (fun hj1=>?_)
    ·cases hj1;exact .beq rfl<|.hU rfl (zl [] 5 rfl)
    refine .n 2 rfl<|.gOn rfl rfl<|.ix1 hx1 5 rfl fun b6 ob6=>.n 1 rfl<|.gOn rfl rfl<|.ld ob6 5 0 rfl<|.gOn rfl rfl<|.bd hj1 fun r4 hr4 hj1=>.cv [] (eY hr4) zLU rfl ?_;cases hj1;exact .beq rfl<|.hU rfl (zl [] 6 rfl)
   refine .cb h1 rfl (fun h1=>?_) (fun h1=>?_)
   ·refine .abf [2] [] 1 rfl rfl ?_;cases h1;cases hd1 _ rfl
    have h:some _=some _:=h;cases h;exact .rv rfl rfl ⟨rfl,rfl⟩ zw
   refine .skip<|.blkN<|.thenN<|.pr [0,3] rfl<|.region ?_;cases h1;exact .be rfl<|.ag () hm1 rfl zw
  refine .xq rfl ?_;cases h1;cases hd1 _ rfl
  exact .thenN<|.hereI () () rfl trivial (zl [] 1 rfl)
 rintro o2 e2 ho;subst ho;have h:=unR h;refine .ae rfl ?_;cases h;exact .rv rfl rfl ⟨rfl,rfl⟩ zw
theorem zVX:Ent Tryz.prog 149:=en Tryz.func149 (by kernel_rfl)
noncomputable def jE (b_p0:zX):Option Int:=
  bnd ((bif decide ((b_p0.Images.length:Int)<1) then (some true) else (some (decide ((b_p0.Images.length:Int)>8))):Option Bool)) fun o1=>bif o1 then (some 2) else (bnd (yE (τ:=Int ⊕ Unit) (fun (s1:Int)=>bif decide (s1<(b_p0.Images.length:Int)) then (bnd (elt b_p0.Images s1) fun x1=>bnd (pR x1) fun r1=>bif !r1 then (some (.done (.inl 1))) else (bnd ((bif decide (s1>0) then (bnd (elt b_p0.Images (IntKind.wrap .i64 (s1 - 1))) fun x2=>some (!(Op.bytesLess x2.Name.toList x1.Name.toList))) else (some false):Option Bool)) fun o4=>bif o4 then (some (.done (.inl 7))) else (some (.next (IntKind.wrap .i64 (s1+1)))))) else (some (.done (.inr ())))) 0) fun o2=>wS o2 fun o3=>bif decide ((b_p0.Needs.length:Int)>16) then (some 3) else (bnd (jM b_p0.Needs) fun r2=>bif !r2 then (some 1) else (some 0)))
theorem zGu {b_p0 A1 c1 A2 c2 r} (h:jE b_p0=some r):
    Fun Tryz.prog 149 [.agg #[.slice A1 b_p0.Images.length c1, .slice A2 b_p0.Needs.length c2]] [.ro (Sl (yJ xD) A1 c1 b_p0.Images), .ro (SlL zP A2 c2 b_p0.Needs)] (Val (.int .i64 r)):=by
 refine Fun.intro Tryz.func149 rfl rfl rfl fun w R=>?_;refine .seq<|.region<|.box rfl rfl fun g1=>.b [1] rfl<|.seq<|.seq<|.bd h fun o1 hj1 h=>.cu 0 [1, .s 13 (.bool o1)] [] rfl rfl ?_ ?_
 ·refine .region<|.p rfl rfl<|.lb 0 0 rfl<|.n 3 rfl<|.gs 8 hj1 rfl (fun hj1=>?_) (fun hj1=>?_)
  ·cases hj1;exact .be rfl<|.hU rfl zw
  refine .n 1 rfl<|.gOn rfl rfl<|.lb 0 0 rfl ?_;cases hj1;exact .be rfl<|.hU rfl zw
 refine .cb h rfl (fun h=>?_) (fun h=>?_)
 ·refine .abf [2] [] 3 rfl rfl ?_;cases h;exact .rv rfl rfl ⟨rfl,rfl⟩ zw
 refine .sk<|.pr [1] rfl<|.seq<|.ae rfl<|.bd h fun o2 hl1 h=>.cutJ 0 (fun (o3:Unit) (e3:Unit)=>[1]) (fun o3 e3=>[]) rfl rfl (fun o3=>o2= .inr o3) ?_ ?_
 ·refine .block<|.loopQ hl1 0 (fun (s1:Int) (e2:Unit)=>[1, .s 3 (.int .i64 s1)]) (fun s1 e2=>[]) rfl rfl () (zb rfl) (fun _ w=>w) ?_;rintro s1 e2 st1 hm1 hd1 h1;refine .seq<|.a 2 rfl<|.lb 0 0 rfl<|.b [1,3,18] rfl<|.cb h1 rfl (fun h1=>?_) (fun h1=>?_)
  ·refine .sk<|.pr [1,3] rfl<|.seq<|.block<|.seq<|.a 1 rfl<|.lb 0 0 rfl<|.p rfl rfl<|.bd h1 fun x1 hx1 h1=>.ix3 hx1 1 rfl fun b1 ob1 ex1=>?_;obtain ⟨⟨A3,c3⟩,_⟩:=ex1;refine .nm 5 rfl<|.ld ob1 0 0 rfl<|.bd h1 fun r1 hr1 h1=>.cv [1] (eZ hr1) zMJ rfl<|.bf [1,3,27] [] 2 rfl rfl<|.cb h1 rfl (fun h1=>?_) (fun h1=>?_)
   ·refine .abf [2] [] 3 rfl rfl ?_;cases h1;cases hd1 _ rfl
    have h:some _=some _:=h;cases h;exact .rv rfl rfl ⟨rfl,rfl⟩ zw
   refine .sk<|.pr [1,3] rfl<|.seq<|.bd h1 fun o4 hj2 h1=>.cu 0 [1,3, .s 45 (.bool o4)] [] rfl rfl ?_ ?_
   ·refine .regionF mixed (by kernel_rfl)<|.n 3 rfl<|.gs 30 hj2 rfl (fun hj2=>?_) (fun hj2=>?_)
    ·refine .n 1 rfl<|.gOn rfl rfl<|.lb 0 0 rfl<|.n 2 rfl<|.gOn rfl rfl<|.bd hj2 fun x2 hx2 hj2=>.ix3 hx2 1 rfl fun b2 ob2 ex2=>?_;obtain ⟨⟨A4,c4⟩,_⟩:=ex2;refine .nm 5 rfl<|.n 1 rfl<|.gOn rfl rfl<|.ld ob2 0 0 rfl<|.n 1 rfl<|.gOn rfl rfl<|.lb 0 2 rfl<|.n 1 rfl<|.gOn rfl rfl<|.ix3 hx1 3 rfl fun b3 ob3 ex3=>?_;obtain ⟨⟨A5,c5⟩,_⟩:=ex3;refine .nm 7 rfl<|.n 1 rfl<|.gOn rfl rfl<|.ld ob3 0 0 rfl ?_;cases hj2;exact .beq rfl<|.hU rfl (zl [] 4 rfl)
    cases hj2;exact .beq rfl<|.hU rfl zw
   refine .cb h1 rfl (fun h1=>?_) (fun h1=>?_)
   ·refine .abf [2] [] 3 rfl rfl ?_;cases h1;cases hd1 _ rfl
    have h:some _=some _:=h;cases h;exact .rv rfl rfl ⟨rfl,rfl⟩ zw
   refine .skip<|.blkN<|.thenN<|.pr [1,3] rfl<|.region ?_;cases h1;exact .be rfl<|.ag () hm1 rfl zw
  refine .xq rfl ?_;cases h1;cases hd1 _ rfl
  exact .thenN<|.hereI () () rfl (zb rfl) zw
 rintro o3 e3 ho;subst ho;have h:=unR h;refine .seq<|.block<|.a 1 rfl<|.lb 1 0 rfl<|.b [1,46] rfl<|.cb h rfl (fun h=>?_) (fun h=>?_)
 ·refine .abf [2] [] 3 rfl rfl ?_;cases h;exact .rv rfl rfl ⟨rfl,rfl⟩ zw
 refine .a 1 rfl<|.lb 1 0 rfl<|.bd h fun r2 hr2 h=>.cv [2] (zGt hr2) zVU rfl<|.bf [51] [] 3 rfl rfl<|.cb h rfl (fun h=>?_) (fun h=>?_)
 ·refine .ab [2] rfl ?_;cases h;exact .rv rfl rfl ⟨rfl,rfl⟩ zw
 refine .skip<|.blkN<|.thenN<|.pr [] rfl<|.ae rfl ?_;cases h;exact .rv rfl rfl ⟨rfl,rfl⟩ zw
theorem zQK:Ent Tryz.prog 151:=en Tryz.func151 (by kernel_rfl)
noncomputable def kC (n_p0:Int):Option (List Int):=
  some ([IntKind.wrap .u8 (uB .u32 n_p0 24),IntKind.wrap .u8 (uB .u32 n_p0 16),IntKind.wrap .u8 (uB .u32 n_p0 8),IntKind.wrap .u8 n_p0])
theorem zBK {n_p0 r} (h:kC n_p0=some r):
    Fun Tryz.prog 151 [.int .u32 n_p0] [] (fun v F=>∃ A1 c1,v= .slice A1 r.length c1∧F= [.res (zL eu8 5 A1 c1 r)]):=by
 unfold kC at h
 refine Fun.intro Tryz.func151 rfl rfl rfl fun w R=>?_;refine .ab [0] rfl<|.a 11 rfl<|.bS rfl fun g1=>.b [2] rfl<|.asrt (fun _ w=>w.litL (E:=eu8) (e:=5) [IntKind.wrap .u8 (uB .u32 n_p0 24),IntKind.wrap .u8 (uB .u32 n_p0 16),IntKind.wrap .u8 (uB .u32 n_p0 8),IntKind.wrap .u8 n_p0] rfl rfl) ?_;cases h;exact .rv rfl rfl ⟨(some ⟨g1,0,none⟩),([IntKind.wrap .u8 (uB .u32 n_p0 24),IntKind.wrap .u8 (uB .u32 n_p0 16),IntKind.wrap .u8 (uB .u32 n_p0 8),IntKind.wrap .u8 n_p0]:List Int).length,rfl,rfl⟩ zw
theorem zXw:Ent Tryz.prog 68:=en Tryz.func68 (by kernel_rfl)
noncomputable def lI (b_p0:zX):Option ((List Int) × Int):=
  bnd (jE b_p0) fun r1=>bif (r1 != 0) then (some ([],r1)) else (bnd (app 1 ([66,77,67,70]) [IntKind.wrap .u8 (b_p0.Images.length:Int)]) fun l1=>bnd (yE (τ:=List Int) (fun (s1:List Int × Int)=>bif decide (s1.2<(b_p0.Images.length:Int)) then (bnd (elt b_p0.Images s1.2) fun x1=>bnd (pS x1) fun r2=>bnd (app 1 s1.1 r2) fun l2=>bnd (jY x1) fun r3=>bnd (kC r3) fun r4=>bnd (app 1 l2 r4) fun l3=>some (.next (l3,IntKind.wrap .i64 (s1.2+1)))) else (some (.done s1.1))) (l1,0)) fun o1=>bnd (app 1 o1 [IntKind.wrap .u8 (b_p0.Needs.length:Int)]) fun l4=>bnd (yE (τ:=List Int) (fun (s2:List Int × Int)=>bif decide (s2.2<(b_p0.Needs.length:Int)) then (bnd (elt b_p0.Needs s2.2) fun x2=>bnd (pE x2.Component) fun r5=>bnd (app 1 s2.1 r5) fun l5=>bnd (uK x2.From) fun r6=>bnd (app 1 l5 r6) fun l6=>bnd (pE x2.On) fun r7=>bnd (app 1 l6 r7) fun l7=>bnd (uK x2.At) fun r8=>bnd (app 1 l7 r8) fun l8=>some (.next (l8,IntKind.wrap .i64 (s2.2+1)))) else (some (.done s2.1))) (l4,0)) fun o2=>bnd (pT o2) fun r9=>bnd (kC r9) fun r10=>bnd (app 1 o2 r10) fun l9=>bif decide ((l9.length:Int)>8192) then (some ([],3)) else (some (l9,0)))
theorem zFq {b_p0 A1 c1 A2 c2 r} (h:lI b_p0=some r):
    Fun Tryz.prog 68 [.agg #[.slice A1 b_p0.Images.length c1, .slice A2 b_p0.Needs.length c2]] [.ro (Sl (yJ xD) A1 c1 b_p0.Images), .ro (SlL zP A2 c2 b_p0.Needs)] (fun v F=>∃ A3 c3,v= .tuple #[.slice A3 r.1.length c3, .int .i64 r.2]∧F= [.res (zL eu8 5 A3 c3 r.1)]):=by
 refine Fun.intro Tryz.func68 rfl rfl rfl fun w R=>?_;refine .seq<|.region<|.box rfl rfl fun g1=>.b [1] rfl<|.seq<|.seq<|.region<|.lb 0 0 rfl<|.bd h fun r1 hr1 h=>.cv [1,2] (zGu hr1) zVX rfl<|.b [1,4] rfl<|.ab [1,4,12] rfl<|.cb h rfl (fun h=>?_) (fun h=>?_)
 ·refine .abf [2,3] [] 3 rfl rfl<|.asrt (fun _ w=>w.nilL eu8 5) ?_;cases h;exact .rv rfl rfl ⟨none,0,rfl,rfl⟩ zw
 refine .sk<|.pr [1] rfl<|.seq<|.region<|.buildSlice0 rfl rfl rfl rfl rfl rfl rfl rfl fun g2=>.markB rfl rfl rfl rfl rfl rfl<|.p rfl rfl<|.lb 0 1 rfl<|.n 2 rfl<|.bS rfl fun g3=>.asrt (fun _ w=>(w.sl [1] 0 rfl).litL (E:=eu8) (e:=5) [66,77,67,70] rfl rfl)<|.bd h fun l1 hl1 h=>.app (E:=eu8) hl1 rfl rfl rfl .z rfl rfl rfl rfl rfl rfl rfl rfl (eN (.tail _ (.head _)) rfl rfl) rfl rfl fun A3 c3=>.bf [1,5] [0] 1 rfl rfl<|.seq<|.ae rfl<|.bd h fun o1 hl1 h=>.cutK 1 (fun (e2:Option Addr × Nat)=>[1, .s 5 (.slice e2.1 o1.length e2.2)]) (fun e2=>[.res (zL eu8 5 e2.1 e2.2 o1)]) rfl rfl ?_ ?_
 ·refine .block<|.loopQ hl1 1 (fun (s1:List Int × Int) (e1:Option Addr × Nat)=>[1, .s 5 (.slice e1.1 s1.1.length e1.2), .s 6 (.int .i64 s1.2)]) (fun s1 e1=>[.res (zL eu8 5 e1.1 e1.2 s1.1)]) rfl rfl (A3,c3) (zb rfl) (fun _ w=>w) ?_;rintro s1 ⟨A4,c4⟩ st1 hm1 hd1 h1;refine .seq<|.a 2 rfl<|.lb 0 1 rfl<|.b [1,5,6,26] rfl<|.cb h1 rfl (fun h1=>?_) (fun h1=>?_)
  ·refine .sk<|.pr [1,5,6] rfl<|.seq<|.block<|.bd h1 fun x1 hx1 h1=>.openN (zm 2 rfl) hx1 fun b1 ob1 ex1 hqb1=>?_;obtain ⟨⟨A6,c6⟩,_⟩:=ex1;refine .nm 6 rfl<|.regionX (iN [0,4,9,12,17,21,32,36,40,44,48,27,31,54,59,63,64] .nil) _ mixed (by kernel_rfl) (zl [0,0] 1 rfl)<|.yn 2 rfl<|.yx 0 3 rfl<|.yn 1 rfl<|.xfx (Rd.ixN hqb1 hx1 rfl rfl rfl rfl rfl rfl rfl) rfl<|.xfx (Rd.load ob1 0 rfl (.head _) rfl rfl) rfl<|.yn 1 rfl<|.yl 0 2 rfl<|.yn 1 rfl<|.xfl (fun _ h=>h) (Rd.ixN hqb1 hx1 rfl rfl rfl rfl rfl rfl rfl) rfl<|.xfl (fun _ h=>h) (Rd.load ob1 0 rfl (.head _) rfl rfl) rfl<|.xef<|.bd h1 fun r2 hr2 h1=>.cr 7 [1] [] 0 (zBd hr2) zRD rfl fun A7 c7=>.xk (zl [1,1] 2 rfl)<|.xef<|.asrt (fun _ w=>w.meltL)<|.bd h1 fun l2 hl2 h1=>.app (E:=eu8) hl2 rfl rfl rfl (.s (.s (.s .z))) rfl rfl rfl rfl rfl rfl rfl rfl (iJ (.head _)) rfl rfl fun A8 c8=>.xk (zl [] 2 rfl)<|.bd h1 fun r3 hr3 h1=>.xqc (fun _ h=>h) (zDX hr3) zRP rfl rfl rfl rfl (za [1] rfl)<|.xef<|.bd h1 fun r4 hr4 h1=>.cr 8 [] [] 0 (zBK hr4) zQK rfl fun A9 c9=>.xk (zl [] 3 rfl)<|.xef<|.asrt (fun _ w=>w.meltL)<|.bd h1 fun l3 hl3 h1=>.app (E:=eu8) hl3 rfl rfl rfl (.s .z) rfl rfl rfl rfl rfl rfl rfl rfl (iJ (.head _)) rfl rfl fun A10 c10=>.xk (zl [] 3 rfl)<|.yn 1 rfl<|.xdone<|.blkN<|.thenN<|.pf [1,5,6] [0] 4 rfl rfl<|.region ?_;cases h1;exact .be rfl<|.ag (A10,c10) hm1 rfl zw
  refine .xq rfl ?_;cases h1;cases hd1 _ rfl
  exact .thenN<|.hE (A4,c4) rfl zw
 rintro ⟨A5,c5⟩;refine .a 2 rfl<|.lb 1 1 rfl<|.n 2 rfl<|.bS rfl fun g4=>.bd h fun l4 hl4 h=>.app (E:=eu8) hl4 rfl rfl rfl (.s .z) rfl rfl rfl rfl rfl rfl rfl rfl (eN (.head _) rfl rfl) rfl rfl fun A11 c11=>.bf [1,5] [0] 1 rfl rfl<|.seq<|.ae rfl<|.bd h fun o2 hl2 h=>.cutK 4 (fun (e4:Option Addr × Nat)=>[.s 5 (.slice e4.1 o2.length e4.2)]) (fun e4=>[.res (zL eu8 5 e4.1 e4.2 o2)]) rfl rfl ?_ ?_
 ·refine .block<|.loopQ hl2 1 (fun (s2:List Int × Int) (e3:Option Addr × Nat)=>[1, .s 5 (.slice e3.1 s2.1.length e3.2), .s 7 (.int .i64 s2.2)]) (fun s2 e3=>[.res (zL eu8 5 e3.1 e3.2 s2.1)]) rfl rfl (A11,c11) (zb rfl) (fun _ w=>w) ?_;rintro s2 ⟨A12,c12⟩ st2 hm2 hd2 h2;refine .seq<|.a 2 rfl<|.lb 1 1 rfl<|.b [1,5,7,56] rfl<|.cb h2 rfl (fun h2=>?_) (fun h2=>?_)
  ·refine .sk<|.pr [1,5,7] rfl<|.seq<|.block<|.a 1 rfl<|.lb 1 1 rfl<|.p rfl rfl<|.bd h2 fun x2 hx2 h2=>.ix1 hx2 3 rfl fun b2 ob2=>.ld ob2 0 0 rfl<|.alloc rfl rfl fun g5=>.sb 0 0 rfl<|.bf [1,5,7,8] [0] 1 rfl rfl<|.seq<|.regionX (iN [0,4,9,20,24,15,19,31,35,36] .nil) _ mixed (by kernel_rfl) (zl [0] 1 rfl)<|.yn 2 rfl<|.yx 0 0 rfl<|.yn 1 rfl<|.yl 1 0 rfl<|.xef<|.bd h2 fun r5 hr5 h2=>.cr 6 [] [] 0 (cT hr5) zLR rfl fun A14 c14=>.xk (zl [1] 2 rfl)<|.xef<|.asrt (fun _ w=>w.meltL)<|.bd h2 fun l5 hl5 h2=>.app (E:=eu8) hl5 rfl rfl rfl (.s (.s .z)) rfl rfl rfl rfl rfl rfl rfl rfl (iJ (.head _)) rfl rfl fun A15 c15=>.xk (zl [] 2 rfl)<|.xef<|.bd h2 fun r6 hr6 h2=>.cr 7 [] [] 0 (iE hr6) zMk rfl fun A16 c16=>.xk (zl [] 3 rfl)<|.xef<|.asrt (fun _ w=>w.meltL)<|.bd h2 fun l6 hl6 h2=>.app (E:=eu8) hl6 rfl rfl rfl (.s .z) rfl rfl rfl rfl rfl rfl rfl rfl (iJ (.head _)) rfl rfl fun A17 c17=>.xk (zl [] 3 rfl)<|.yn 1 rfl<|.xdone<|.thenN<|.pf [1,5,7,8] [0] 2 rfl rfl<|.regionX (iN [0,4,9,20,24,15,19,31,35,36] .nil) _ mixed (by kernel_rfl) (zl [] 1 rfl)<|.yn 2 rfl<|.yx 4 1 rfl<|.yn 1 rfl<|.yl 5 0 rfl<|.xef<|.bd h2 fun r7 hr7 h2=>.cr 6 [] [] 0 (cT hr7) zLR rfl fun A18 c18=>.xk (zl [] 2 rfl)<|.xef<|.asrt (fun _ w=>w.meltL)<|.bd h2 fun l7 hl7 h2=>.app (E:=eu8) hl7 rfl rfl rfl (.s .z) rfl rfl rfl rfl rfl rfl rfl rfl (iJ (.head _)) rfl rfl fun A19 c19=>.xk (zl [] 2 rfl)<|.xef<|.bd h2 fun r8 hr8 h2=>.cr 7 [] [] 0 (iE hr8) zMk rfl fun A20 c20=>.xk (zl [] 3 rfl)<|.xef<|.asrt (fun _ w=>w.meltL)<|.bd h2 fun l8 hl8 h2=>.app (E:=eu8) hl8 rfl rfl rfl (.s .z) rfl rfl rfl rfl rfl rfl rfl rfl (iJ (.head _)) rfl rfl fun A21 c21=>.xk (zl [] 3 rfl)<|.yn 1 rfl<|.xdone<|.blkN<|.thenN<|.pf [1,5,7] [0] 3 rfl rfl<|.region ?_;cases h2;exact .be rfl<|.ag (A21,c21) hm2 rfl zw
  refine .xq rfl ?_;cases h2;cases hd2 _ rfl
  exact .thenN<|.hE (A12,c12) rfl (zl [0] 3 rfl)
 rintro ⟨A13,c13⟩;refine .a 2 rfl<|.bd h fun r9 hr9 h=>.callL (zBa hr9) zQc rfl rfl rfl rfl (gT.own (.head _) gT.nil) (fun _ _ h=>by rw [h.2]; exact True.intro) ?_;rintro _ _ ⟨rfl,rfl⟩;refine .nm 1 rfl<|.bd h fun r10 hr10 h=>.cr 2 [] [] 0 (zBK hr10) zQK rfl fun A22 c22=>.asrt (fun _ w=>w.meltL)<|.bd h fun l9 hl9 h=>.app (E:=eu8) hl9 rfl rfl rfl (.s .z) rfl rfl rfl rfl rfl rfl rfl rfl (iJ (.head _)) rfl rfl fun A23 c23=>.bf [5] [0] 1 rfl rfl<|.seq<|.ab [5,89] rfl<|.cb h rfl (fun h=>?_) (fun h=>?_)
 ·refine .abf [2,3] [] 1 rfl rfl<|.asrt (fun _ w=>w.nilL eu8 5) ?_;cases h;exact .rv rfl rfl ⟨none,0,rfl,rfl⟩ zw
 refine .sk<|.pr [5] rfl<|.ab [2,3] rfl ?_;cases h;exact .rv rfl rfl ⟨A23,c23,rfl,rfl⟩ zw
theorem zUH:Ent Tryz.prog 17:=en Tryz.func17 (by kernel_rfl)
noncomputable def pV (c_p0:xQ) (l_p1:(List zB)) (needs:(List zU)):Option (xQ × (List Int)):=
  bnd (yE (τ:=List zI × List Int × Int) (fun (s1:Int × List zI × List Int × Int)=>bif decide (s1.1<(l_p1.length:Int)) then (bnd (elt l_p1 s1.1) fun x1=>bnd (yG (⟨s1.2.2.1,s1.2.2.2⟩:xQ) 5) fun r1=>bif decide (r1.2<4) then (bnd (yG r1.1 6) fun r2=>bnd (yG r2.1 256) fun r3=>bnd (app 64 s1.2.1 [(⟨x1.Name,(⟨IntKind.wrap .i64 (1+((IntKind.wrap .i64 (r2.2.tdiv 2)).tmod 3)),0,0⟩:zJ), [IntKind.wrap .u8 r3.2]⟩:zI)]) fun l1=>some (.next (IntKind.wrap .i64 (s1.1+1),l1,r3.1.L,r3.1.At))) else (some (.next (IntKind.wrap .i64 (s1.1+1),s1.2.1,r1.1.L,r1.1.At)))) else (some (.done (s1.2.1,s1.2.2.1,s1.2.2.2)))) (0, [],c_p0.L,c_p0.At)) fun o1=>bnd (yE (τ:=List zU × List Int × Int) (fun (s2:Int × List zU × List Int × Int)=>bif decide (s2.1<(needs.length:Int)) then (bnd (elt needs s2.1) fun x2=>bnd (yG (⟨s2.2.2.1,s2.2.2.2⟩:xQ) 2) fun r4=>bif (r4.2==0) then (bnd (app 80 s2.2.1 [x2]) fun l2=>some (.next (IntKind.wrap .i64 (s2.1+1),l2,r4.1.L,r4.1.At))) else (some (.next (IntKind.wrap .i64 (s2.1+1),s2.2.1,r4.1.L,r4.1.At)))) else (some (.done (s2.2.1,s2.2.2.1,s2.2.2.2)))) (0, [],o1.2.1,o1.2.2)) fun o2=>bnd ((bnd (yG (⟨o2.2.1,o2.2.2⟩:xQ) 16) fun r5=>bif (r5.2==15) then (bnd (app 64 o1.1 [(⟨⟨#[122,122,122]⟩,(⟨1,0,0⟩:zJ), [1]⟩:zI)]) fun l3=>some (l3,o2.1,r5.1.L,r5.1.At)) else (bif (r5.2==14) then (bnd (app 80 o2.1 [(⟨⟨#[97]⟩,(⟨0,0,0⟩:zJ),⟨#[98]⟩,(⟨0,0,0⟩:zJ)⟩:zU)]) fun l4=>some (o1.1,l4,r5.1.L,r5.1.At)) else (some (o1.1,o2.1,r5.1.L,r5.1.At))):Option (List zI × List zU × List Int × Int))) fun o3=>bnd (lI (⟨o3.1,o3.2.1⟩:zX)) fun r6=>bnd ((bnd (yG (⟨o3.2.2.1,o3.2.2.2⟩:xQ) 16) fun r7=>bif (r7.2==15) then (some (decide ((r6.1.length:Int)>0),r7.1.L,r7.1.At)) else (some (false,r7.1.L,r7.1.At)):Option (Bool × List Int × Int))) fun o4=>bif o4.1 then (bnd (yG (⟨o4.2.1,o4.2.2⟩:xQ) (r6.1.length:Int)) fun r8=>bnd (elt r6.1 r8.2) fun x3=>bnd (sW r6.1 r8.2 (IntKind.wrap .u8 (x3+1))) fun l5=>some (r8.1,l5)) else (some ((⟨o4.2.1,o4.2.2⟩:xQ),r6.1))
theorem zAX {c_p0 l_p1 needs A1 c1 A2 c2 A3 c3 gb1 r} (h:pV c_p0 l_p1 needs=some r):
    Fun Tryz.prog 17 [.pointer (some ⟨gb1,0,none⟩), .slice A2 l_p1.length c2, .slice A3 needs.length c3] [.ro (SlL eu8 A1 c1 c_p0.L), .ro (Sl (yJ zE) A2 c2 l_p1), .ro (SlL zP A3 c3 needs), .res (Box gb1 127 [.slice A1 c_p0.L.length c1, .int .i64 c_p0.At])] (fun v F=>∃ A4 c4 A5 c5,v= .slice A5 r.2.length c5∧F= [.ro (SlL eu8 A4 c4 r.1.L), .res (Box gb1 127 [.slice A4 r.1.L.length c4, .int .i64 r.1.At]), .res (zL eu8 5 A5 c5 r.2)]):=by
 refine Fun.intro Tryz.func17 rfl rfl rfl fun w R=>?_;refine .ab [0,1,2] rfl<|.seq<|.region<|.alloc rfl rfl fun g1=>.done<|.thenN<|.seq<|.ab [0,2,7,14,15,16] rfl<|.asrt (fun _ w=>w.nilC (yJ xD) 58)<|.bd h fun o1 hl1 h=>.cutK 6 (fun (e2:Option Addr × Nat × Option Addr × Nat)=>[0,2,7]) (fun e2=>[.ro (SlL eu8 e2.2.2.1 e2.2.2.2 o1.2.1), .res (xH (yJ xD) 58 e2.1 e2.2.1 o1.1), .res (Box g1 46 [.slice e2.1 o1.1.length e2.2.1, .slice none 0 0]),4, .res (Box gb1 127 [.slice e2.2.2.1 o1.2.1.length e2.2.2.2, .int .i64 o1.2.2])]) rfl rfl ?_ ?_
 ·refine .block<|.loopQ hl1 6 (fun (s1:Int × List zI × List Int × Int) (e1:Option Addr × Nat × Option Addr × Nat)=>[0,2,7,14,15, .s 16 (.int .i64 s1.1)]) (fun s1 e1=>[.ro (SlL eu8 e1.2.2.1 e1.2.2.2 s1.2.2.1), .res (xH (yJ xD) 58 e1.1 e1.2.1 s1.2.1), .res (Box g1 46 [.slice e1.1 s1.2.1.length e1.2.1, .slice none 0 0]),3,4, .res (Box gb1 127 [.slice e1.2.2.1 s1.2.2.1.length e1.2.2.2, .int .i64 s1.2.2.2])]) rfl rfl (none,0,A1,c1) (zb rfl) (zl [2] 0 rfl) ?_;rintro s1 ⟨A4,c4,A5,c5⟩ st1 hm1 hd1 h1;refine .ae rfl<|.seq<|.cb h1 rfl (fun h1=>?_) (fun h1=>?_)
  ·refine .sk<|.pr [0,2,7,14,15,16] rfl<|.seq<|.block<|.seq<|.region<|.bd h1 fun x1 hx1 h1=>.ix3 hx1 3 rfl fun b1 ob1 ex1=>?_;obtain ⟨⟨A8,c8⟩,⟨⟨A9,c9⟩,_⟩⟩:=ex1;refine .nm 9 rfl<|.ld ob1 0 0 rfl<|.alloc rfl rfl fun g2=>.sb 0 0 rfl<|.bf [0,2,7,9,14,15,16] [0] 1 rfl rfl<|.a 1 rfl<|.bd h1 fun r1 hr1 h1=>.cr 10 [4] [8] 0 (yL hr1) kM rfl fun A10 c10=>.bf [0,2,7,9,14,15,16,22] [0,0,0,0,0] 1 rfl rfl<|.cb h1 rfl (fun h1=>?_) (fun h1=>?_)
   ·refine .bd h1 fun r2 hr2 h1=>.bd h1 fun r3 hr3 h1=>.bd h1 fun l1 hl1 h1=>.regionX (iN [0,8,12,16,40] (.alt (iN [7] (iN [23,24,28,32,36] (iN [47,48] (iN [55,56] (iN [63] (iN [67,68] (iN [75] .nil))))))) (iN [23,24,28,32,36] (.alt (iN [7] (iN [47,48] (iN [55,56] (iN [63] (iN [67,68] (iN [75] .nil)))))) (iN [47,48] (.alt (iN [7] (iN [55,56] (iN [63] (iN [67,68] (iN [75] .nil))))) (iN [55,56] (.alt (iN [7] (iN [63] (iN [67,68] (iN [75] .nil)))) (iN [63] (iN [7] (iN [67,68] (iN [75] .nil)))))))))))) _ mixed (by kernel_rfl) (zl [0,1,1,1] 3 rfl)<|.shareK (Y:=?Ynd1_0) 2 (fun (e:Nat × Nat × Option Addr × Nat × Option Addr × Nat)=>[0,2,7,14,15,16, .s 24 (.slice A4 s1.2.1.length c4), .s 26 (.string x1.Name), .s 28 (.int .i64 r2.2), .s 29 (.int .i64 (IntKind.wrap .i64 (r2.2.tdiv 2))), .s 30 (.int .i64 ((IntKind.wrap .i64 (r2.2.tdiv 2)).tmod 3)), .s 31 (.int .i64 (IntKind.wrap .i64 (1+((IntKind.wrap .i64 (r2.2.tdiv 2)).tmod 3)))), .s 32 (.agg #[.int .i64 (IntKind.wrap .i64 (1+((IntKind.wrap .i64 (r2.2.tdiv 2)).tmod 3))), .int .i64 0, .int .i64 0]), .s 34 (.int .i64 r3.2), .s 36 (.slice (some ⟨e.1,0,none⟩) 1 1), .s 38 (.slice (some ⟨e.2.1,0,none⟩) 1 1)]) (fun e=>[.res (Box e.2.1 58 [.string x1.Name, .int .i64 (IntKind.wrap .i64 (1+((IntKind.wrap .i64 (r2.2.tdiv 2)).tmod 3))), .int .i64 0, .int .i64 0, .slice (some ⟨e.1,0,none⟩) 1 1]), .res (Box e.1 5 [.int .u8 (IntKind.wrap .u8 r3.2)]), .ro (SlL eu8 e.2.2.1 e.2.2.2.1 r3.1.L), .res (Box gb1 127 [.slice e.2.2.1 r3.1.L.length e.2.2.2.1, .int .i64 r3.1.At]), .ro (SlL eu8 e.2.2.2.2.1 e.2.2.2.2.2 r2.1.L),0]) rfl rfl (fun hnd1_0=>?mnd1_0) ?tnd1_0
    case mnd1_0=>
     refine .shareK (Y:=?Ynd1_1) 2 (fun (e:Nat × Option Addr × Nat × Option Addr × Nat)=>[0,2,7,14,15,16, .s 24 (.slice A4 s1.2.1.length c4), .s 26 (.string x1.Name), .s 28 (.int .i64 r2.2), .s 29 (.int .i64 (IntKind.wrap .i64 (r2.2.tdiv 2))), .s 30 (.int .i64 ((IntKind.wrap .i64 (r2.2.tdiv 2)).tmod 3)), .s 31 (.int .i64 (IntKind.wrap .i64 (1+((IntKind.wrap .i64 (r2.2.tdiv 2)).tmod 3)))), .s 32 (.agg #[.int .i64 (IntKind.wrap .i64 (1+((IntKind.wrap .i64 (r2.2.tdiv 2)).tmod 3))), .int .i64 0, .int .i64 0]), .s 34 (.int .i64 r3.2), .s 36 (.slice (some ⟨e.1,0,none⟩) 1 1), .s 37 (.agg #[.string x1.Name, .int .i64 (IntKind.wrap .i64 (1+((IntKind.wrap .i64 (r2.2.tdiv 2)).tmod 3))), .int .i64 0, .int .i64 0, .slice (some ⟨e.1,0,none⟩) 1 1])]) (fun e=>[.res (Box e.1 5 [.int .u8 (IntKind.wrap .u8 r3.2)]), .ro (SlL eu8 e.2.1 e.2.2.1 r3.1.L), .res (Box gb1 127 [.slice e.2.1 r3.1.L.length e.2.2.1, .int .i64 r3.1.At]), .ro (SlL eu8 e.2.2.2.1 e.2.2.2.2 r2.1.L),0]) rfl rfl (fun hnd1_1=>?mnd1_1) ?tnd1_1
     case mnd1_1=>
      refine .shareK (Y:=?Ynd1_2) 2 (fun (e:Option Addr × Nat × Option Addr × Nat)=>[0,2,7,14,15,16, .s 24 (.slice A4 s1.2.1.length c4), .s 26 (.string x1.Name), .s 28 (.int .i64 r2.2), .s 29 (.int .i64 (IntKind.wrap .i64 (r2.2.tdiv 2))), .s 30 (.int .i64 ((IntKind.wrap .i64 (r2.2.tdiv 2)).tmod 3)), .s 31 (.int .i64 (IntKind.wrap .i64 (1+((IntKind.wrap .i64 (r2.2.tdiv 2)).tmod 3)))), .s 32 (.agg #[.int .i64 (IntKind.wrap .i64 (1+((IntKind.wrap .i64 (r2.2.tdiv 2)).tmod 3))), .int .i64 0, .int .i64 0]), .s 34 (.int .i64 r3.2), .s 35 (.int .u8 (IntKind.wrap .u8 r3.2))]) (fun e=>[.ro (SlL eu8 e.1 e.2.1 r3.1.L), .res (Box gb1 127 [.slice e.1 r3.1.L.length e.2.1, .int .i64 r3.1.At]), .ro (SlL eu8 e.2.2.1 e.2.2.2 r2.1.L),0]) rfl rfl (fun hnd1_2=>?mnd1_2) ?tnd1_2
      case mnd1_2=>
       refine .shareK (Y:=?Ynd1_3) 2 (fun (e:Option Addr × Nat)=>[0,2,7,14,15,16, .s 24 (.slice A4 s1.2.1.length c4), .s 26 (.string x1.Name), .s 28 (.int .i64 r2.2), .s 29 (.int .i64 (IntKind.wrap .i64 (r2.2.tdiv 2))), .s 30 (.int .i64 ((IntKind.wrap .i64 (r2.2.tdiv 2)).tmod 3)), .s 31 (.int .i64 (IntKind.wrap .i64 (1+((IntKind.wrap .i64 (r2.2.tdiv 2)).tmod 3)))), .s 32 (.agg #[.int .i64 (IntKind.wrap .i64 (1+((IntKind.wrap .i64 (r2.2.tdiv 2)).tmod 3))), .int .i64 0, .int .i64 0]), .s 33 (.pointer (some ⟨gb1,0,none⟩))]) (fun e=>[.ro (SlL eu8 e.1 e.2 r2.1.L), .res (Box gb1 127 [.slice e.1 r2.1.L.length e.2, .int .i64 r2.1.At]),0]) rfl rfl (fun hnd1_3=>?mnd1_3) ?tnd1_3
       case mnd1_3=>
        refine .yn 2 rfl<|.yl 0 1 rfl<|.yn 2 rfl<|.xalt ?_ ?_
        ·refine .xef<|.lb 0 6 rfl<|.xk (zl [0,1,1,1] 3 rfl)<|.xef<|.cr 10 [1] [1] 0 (yL hr2) kM rfl fun A11 c11=>.xk (zl [2,2,2,2] 4 rfl)<|.yn 4 rfl ?_;refine hnd1_3 _ _ (A11,c11) ?_ ?_
         ·exact ⟨rfl,rfl,rfl,rfl,rfl,rfl,rfl,rfl,rfl,rfl,rfl,rfl,rfl,rfl,trivial⟩
         exact fun _ w=>w
        refine .xef<|.cr 10 [1] [1] 0 (yL hr2) kM rfl fun A11 c11=>.xk (zl [2,2,2,2] 4 rfl)<|.yn 4 rfl<|.xalt ?_ ?_
        ·refine .xef<|.lb 0 7 rfl<|.xk (zl [2,2,2,2] 4 rfl) ?_;refine hnd1_3 _ _ (A11,c11) ?_ ?_
         ·exact ⟨rfl,rfl,rfl,rfl,rfl,rfl,rfl,rfl,rfl,rfl,rfl,rfl,rfl,rfl,trivial⟩
         exact fun _ w=>w
        refine .xef<|.cr 11 [1] [1] 0 (yL hr3) kM rfl fun A12 c12=>.xk (zl [3,3,3,3] 5 rfl)<|.yn 1 rfl<|.xalt ?_ ?_
        ·refine .xef<|.lb 0 8 rfl<|.xk (zl [3,3,3,3] 5 rfl) ?_;refine hnd1_2 _ _ (A12,c12,A11,c11) ?_ ?_
         ·exact ⟨rfl,rfl,rfl,rfl,rfl,rfl,rfl,rfl,rfl,rfl,rfl,rfl,rfl,rfl,rfl,trivial⟩
         exact fun _ w=>w
        refine .xef<|.bS rfl fun g3=>.xk (zl [4,4,4,4] 6 rfl)<|.yn 1 rfl<|.xalt ?_ ?_
        ·refine .xef<|.lb 0 9 rfl<|.xk (zl [4,4,4,4] 6 rfl) ?_;refine hnd1_1 _ _ (g3,A12,c12,A11,c11) ?_ ?_
         ·exact ⟨rfl,rfl,rfl,rfl,rfl,rfl,rfl,rfl,rfl,rfl,rfl,rfl,rfl,rfl,rfl,rfl,trivial⟩
         exact fun _ w=>w
        refine .xef<|.bS rfl fun g4=>.xk (zl [5,5,5,5] 7 rfl)<|.xef<|.lb 0 10 rfl<|.xk (zl [5,5,5,5] 7 rfl) ?_;refine hnd1_0 _ _ (g3,g4,A12,c12,A11,c11) ?_ ?_
        ·exact ⟨rfl,rfl,rfl,rfl,rfl,rfl,rfl,rfl,rfl,rfl,rfl,rfl,rfl,rfl,rfl,rfl,trivial⟩
        exact fun _ w=>w
       case tnd1_3=>
        rintro ⟨A11,c11⟩;refine .nm 10 rfl<|.xef<|.cr 11 [1] [1] 0 (yL hr3) kM rfl fun A12 c12=>.xk (zl [3,3,3,3] 5 rfl)<|.yn 1 rfl ?_;refine hnd1_2 _ _ (A12,c12,A11,c11) ?_ ?_
        ·exact ⟨rfl,rfl,rfl,rfl,rfl,rfl,rfl,rfl,rfl,rfl,rfl,rfl,rfl,rfl,rfl,trivial⟩
        exact fun _ w=>w
      case tnd1_2=>
       rintro ⟨A12,c12,A11,c11⟩;refine .nm 11 rfl<|.xef<|.bS rfl fun g3=>.xk (zl [4,4,4,4] 6 rfl)<|.yn 1 rfl ?_;refine hnd1_1 _ _ (g3,A12,c12,A11,c11) ?_ ?_
       ·exact ⟨rfl,rfl,rfl,rfl,rfl,rfl,rfl,rfl,rfl,rfl,rfl,rfl,rfl,rfl,rfl,rfl,trivial⟩
       exact fun _ w=>w
     case tnd1_1=>
      rintro ⟨g3,A12,c12,A11,c11⟩;refine .nm 12 rfl<|.xef<|.bS rfl fun g4=>.xk (zl [5,5,5,5] 7 rfl) ?_;refine hnd1_0 _ _ (g3,g4,A12,c12,A11,c11) ?_ ?_
      ·exact ⟨rfl,rfl,rfl,rfl,rfl,rfl,rfl,rfl,rfl,rfl,rfl,rfl,rfl,rfl,rfl,rfl,trivial⟩
      exact fun _ w=>w
    case tnd1_0=>
     rintro ⟨g3,g4,A12,c12,A11,c11⟩;refine .nm 13 rfl<|.xef<|.asrt (fun _ w=>(w.sl [1] 0 rfl).litL (E:=eu8) (e:=5) [IntKind.wrap .u8 r3.2] rfl rfl)<|.asrt (fun _ w=>w.meltL)<|.appC (E:=(yJ xD)) hl1 rfl rfl rfl (.s (.s (.s (.s (.s (.s (.s (.s (.s .z))))))))) rfl rfl rfl rfl rfl rfl rfl rfl (zDK (ls:=xD) [((⟨x1.Name,(⟨IntKind.wrap .i64 (1+((IntKind.wrap .i64 (r2.2.tdiv 2)).tmod 3)),0,0⟩:zJ), [IntKind.wrap .u8 r3.2]⟩:zI),(((some ⟨g3,0,none⟩),([IntKind.wrap .u8 r3.2]:List Int).length),()))] (.tail _ (.head _)) rfl rfl rfl ⟨(.head _),trivial⟩) rfl rfl fun A13 c13=>.xk (zl [6,6,6,6] 7 rfl)<|.yn 1 rfl<|.xef<|.sb 0 10 rfl<|.xk (zl [] 7 rfl)<|.xdone<|.blkN<|.thenN<|.pf [0,2,7,14,15,16] [0,0,2,2] 7 rfl rfl<|.region ?_;cases h1;exact .be rfl<|.ag (A13,c13,A12,c12) hm1 rfl (zl [2,1,0,1,1] 0 rfl)
   refine .skip<|.blkN<|.thenN<|.pf [0,2,7,14,15,16] [0,0] 3 rfl rfl<|.region ?_;cases h1;exact .be rfl<|.ag (A4,c4,A10,c10) hm1 rfl (zl [0,1,1,1,1] 0 rfl)
  refine .xq rfl ?_;cases h1;cases hd1 _ rfl
  exact .thenN<|.hE (A4,c4,A5,c5) rfl (zl [0,0,0] 1 rfl)
 rintro ⟨A6,c6,A7,c7⟩;refine .seq<|.ab [0,7,42,43,44] rfl<|.asrt (fun _ w=>w.nilL zP 123)<|.bd h fun o2 hl2 h=>.cutK 6 (fun (e4:Option Addr × Nat × Option Addr × Nat)=>[0,7]) (fun e4=>[.ro (SlL eu8 e4.2.2.1 e4.2.2.2 o2.2.1), .res (zL zP 123 e4.1 e4.2.1 o2.1),2, .res (Box g1 46 [.slice A6 o1.1.length c6, .slice e4.1 o2.1.length e4.2.1]), .res (Box gb1 127 [.slice e4.2.2.1 o2.2.1.length e4.2.2.2, .int .i64 o2.2.2])]) rfl rfl ?_ ?_
 ·refine .block<|.loopQ hl2 6 (fun (s2:Int × List zU × List Int × Int) (e3:Option Addr × Nat × Option Addr × Nat)=>[0,7,42,43, .s 44 (.int .i64 s2.1)]) (fun s2 e3=>[.ro (SlL eu8 e3.2.2.1 e3.2.2.2 s2.2.2.1), .res (zL zP 123 e3.1 e3.2.1 s2.2.1),2, .res (Box g1 46 [.slice A6 o1.1.length c6, .slice e3.1 s2.2.1.length e3.2.1]),4, .res (Box gb1 127 [.slice e3.2.2.1 s2.2.2.1.length e3.2.2.2, .int .i64 s2.2.2.2])]) rfl rfl (none,0,A7,c7) (zb rfl) (zl [1] 0 rfl) ?_;rintro s2 ⟨A14,c14,A15,c15⟩ st2 hm2 hd2 h2;refine .ae rfl<|.seq<|.cb h2 rfl (fun h2=>?_) (fun h2=>?_)
  ·refine .sk<|.pr [0,7,42,43,44] rfl<|.seq<|.block<|.seq<|.region<|.bd h2 fun x2 hx2 h2=>.ix1 hx2 4 rfl fun b2 ob2=>.ld ob2 0 0 rfl<|.alloc rfl rfl fun g5=>.sb 0 0 rfl<|.bf [0,7,11,42,43,44] [0] 1 rfl rfl<|.a 1 rfl<|.bd h2 fun r4 hr4 h2=>.cr 8 [2] [6] 0 (yL hr4) kM rfl fun A18 c18=>.bf [0,7,11,42,43,44,50] [0,0,0] 1 rfl rfl<|.cb h2 rfl (fun h2=>?_) (fun h2=>?_)
   ·refine .region<|.p rfl rfl<|.lb 1 5 rfl<|.lb 0 2 rfl<|.bS rfl fun g6=>.bd h2 fun l2 hl2 h2=>.app (E:=zP) hl2 rfl rfl rfl (.s (.s (.s (.s .z)))) rfl rfl rfl rfl rfl rfl rfl rfl (eN (.head _) rfl rfl) rfl rfl fun A19 c19=>.p rfl rfl<|.sb 1 6 rfl<|.done<|.blkN<|.thenN<|.pf [0,7,42,43,44] [0,0,1,1] 2 rfl rfl<|.region ?_;cases h2;exact .be rfl<|.ag (A19,c19,A18,c18) hm2 rfl (zl [2,1,2,0,1] 0 rfl)
   refine .skip<|.blkN<|.thenN<|.pf [0,7,42,43,44] [0,0] 1 rfl rfl<|.region ?_;cases h2;exact .be rfl<|.ag (A14,c14,A18,c18) hm2 rfl (zl [0,1,1,1,1] 0 rfl)
  refine .xq rfl ?_;cases h2;cases hd2 _ rfl
  exact .thenN<|.hE (A14,c14,A15,c15) rfl (zl [0,0,0,0] 1 rfl)
 rintro ⟨A16,c16,A17,c17⟩;refine .seq<|.bd h fun o3 hj1 h=>.cutK 5 (fun (e5:Option Addr × Nat × Option Addr × Nat × Option Addr × Nat)=>[0,7]) (fun e5=>[.ro (SlL eu8 e5.2.2.2.2.1 e5.2.2.2.2.2 o3.2.2.1), .res (zL zP 123 e5.2.2.1 e5.2.2.2.1 o3.2.1), .res (xH (yJ xD) 58 e5.1 e5.2.1 o3.1), .res (Box g1 46 [.slice e5.1 o3.1.length e5.2.1, .slice e5.2.2.1 o3.2.1.length e5.2.2.2.1]), .res (Box gb1 127 [.slice e5.2.2.2.2.1 o3.2.2.1.length e5.2.2.2.2.2, .int .i64 o3.2.2.2])]) rfl rfl ?_ ?_
 ·refine .a 1 rfl<|.bd hj1 fun r5 hr5 hj1=>.cr 6 [1] [4] 0 (yL hr5) kM rfl fun A23 c23=>.bf [0,7,59] [0,0] 1 rfl rfl<|.block<|.ab [0,7,59,60] rfl<|.cb hj1 rfl (fun hj1=>?_) (fun hj1=>?_)
  ·refine .region<|.p rfl rfl<|.lb 0 4 rfl<|.p rfl rfl<|.bS rfl fun g7=>.p rfl rfl<|.bS rfl fun g8=>.bd hj1 fun l3 hl3 hj1=>.asrt (fun _ w=>(w.sl [1] 0 rfl).litL (E:=eu8) (e:=5) [1] rfl rfl)<|.asrt (fun _ w=>w.meltL)<|.appC (E:=(yJ xD)) hl3 rfl rfl rfl (.s (.s (.s (.s (.s .z))))) rfl rfl rfl rfl rfl rfl rfl rfl (zDK (ls:=xD) [((⟨⟨#[122,122,122]⟩,(⟨1,0,0⟩:zJ), [1]⟩:zI),(((some ⟨g7,0,none⟩),([1]:List Int).length),()))] (.tail _ (.head _)) rfl rfl rfl ⟨(.head _),trivial⟩) rfl rfl fun A24 c24=>.p rfl rfl<|.sb 0 6 rfl<|.done<|.blkN ?_;cases hj1;exact .thenN<|.hE (A24,c24,A16,c16,A23,c23) rfl (zl [4,5,1,0] 2 rfl)
  refine .ab [0,7,70] rfl<|.cb hj1 rfl (fun hj1=>?_) (fun hj1=>?_)
  ·refine .region<|.p rfl rfl<|.lb 1 4 rfl<|.p rfl rfl<|.bS rfl fun g9=>.bd hj1 fun l4 hl4 hj1=>.app (E:=zP) hl4 rfl rfl rfl (.s (.s (.s .z))) rfl rfl rfl rfl rfl rfl rfl rfl (eN (.head _) rfl rfl) rfl rfl fun A25 c25=>.p rfl rfl<|.sb 1 5 rfl<|.done<|.blkN ?_;cases hj1;exact .thenN<|.hE (A6,c6,A25,c25,A23,c23) rfl (zl [3,1,3,0] 1 rfl)
  refine .skip<|.blkN ?_;cases hj1;exact .thenN<|.hE (A6,c6,A16,c16,A23,c23) rfl (zl [0,1,1,1] 0 rfl)
 rintro ⟨A20,c20,A21,c21,A22,c22⟩;refine .seq<|.region<|.lb 0 3 rfl<|.asrt (fun _ w=>(w.sl [2] 0 rfl).meltC)<|.asrt (fun _ w=>(w.sl [2] 0 rfl).meltL)<|.bd h fun r6 hr6 h=>.cr 6 [1,0] [] 0 (zFq hr6) zXw rfl fun A26 c26=>.bf [0,12] [0,2] 3 rfl rfl<|.seq<|.seq<|.bd h fun o4 hj2 h=>.cutK 3 (fun (e6:Option Addr × Nat)=>[0,12, .s 90 (.bool o4.1)]) (fun e6=>[.ro (SlL eu8 e6.1 e6.2 o4.2.1),0, .res (Box gb1 127 [.slice e6.1 o4.2.1.length e6.2, .int .i64 o4.2.2])]) rfl rfl ?_ ?_
 ·refine .region<|.p rfl rfl<|.bd hj2 fun r7 hr7 hj2=>.cr 4 [2] [2] 0 (yL hr7) kM rfl fun A28 c28=>.n 2 rfl<|.gs 86 hj2 rfl (fun hj2=>?_) (fun hj2=>?_)
  ·cases hj2;exact .be rfl<|.hE (A28,c28) rfl (zl [0,1,0] 1 rfl)
  cases hj2;exact .be rfl<|.hE (A28,c28) rfl (zl [0,1,0] 1 rfl)
 rintro ⟨A27,c27⟩;refine .cb h rfl (fun h=>?_) (fun h=>?_)
 ·refine .region<|.n 4 rfl<|.bd h fun r8 hr8 h=>.cr 4 [1] [2] 0 (yL hr8) kM rfl fun A29 c29=>.bd h fun x3 hx3 h=>.ix2 hx3 3 rfl fun g10 hA=>?_;subst hA;refine .ldO 0 hx3 rfl rfl (zm 3 rfl) rfl rfl<|.p rfl rfl<|.ix2 hx3 3 rfl fun g11 hA=>?_;cases hA;refine .bd h fun l5 hl5 h=>.stO 0 hx3 hl5 rfl rfl (.s (.s (.s .z))) rfl rfl rfl rfl rfl ?_;refine .ss 12 (tT hl5) ?_;refine .ss 91 (tT hl5) ?_;refine .ss 93 (tT hl5)<|.bf [12] [0,0,0] 1 rfl rfl<|.ab [6] rfl ?_;cases h;exact .rv rfl rfl ⟨A29,c29,(some ⟨g10,0,none⟩),c26,rfl,rfl⟩ (zk 3 1 [2] [2] 0 rfl)
 refine .sk<|.pr [12] rfl<|.ab [6] rfl ?_;cases h;exact .rv rfl rfl ⟨A27,c27,A26,c26,rfl,rfl⟩ (zk 3 1 [2] [2,1] 0 rfl)
theorem zUJ:Ent Tryz.prog 24:=en Tryz.func24 (by kernel_rfl)
noncomputable def yO (a_p0:zC):Option (List zB):=
  bnd ((mkC 184 0 (a_p0.devices.length:Int):Option (List zB))) fun l1=>bnd (yE (τ:=List zB) (fun (s1:List zB × Int)=>bif decide (s1.2<(a_p0.devices.length:Int)) then (bnd (elt a_p0.devices s1.2) fun x1=>bnd (pN x1) fun r1=>bnd (app 184 s1.1 [r1]) fun l2=>some (.next (l2,IntKind.wrap .i64 (s1.2+1)))) else (some (.done s1.1))) (l1,0)) fun o1=>some o1
theorem lD {a_p0 A1 c1 A2 c2 A3 c3 A4 c4 A5 c5 gb1 gb2 r} (h:yO a_p0=some r):
    Fun Tryz.prog 24 [.pointer (some ⟨gb1,0,none⟩)] [.ro (SlL zP A2 c2 a_p0.needs), .ro (SlL yS A3 c3 a_p0.load.Have), .ro (SlL eu8 A4 c4 a_p0.load.Data), .ro (SlL yC A5 c5 a_p0.order), .res (Box gb1 144 (zH a_p0 gb2 A1 c1 A2 c2 A3 c3 A4 c4 A5 c5)), .res (xH (yJ zE) 64 A1 c1 a_p0.devices)] (fun v F=>∃ A6 c6,v= .slice A6 r.length c6∧F= [.res (Box gb1 144 (zH a_p0 gb2 A1 c1 A2 c2 A3 c3 A4 c4 A5 c5)), .res (xH (yJ zE) 64 A1 c1 a_p0.devices), .res (xH (yJ zE) 64 A6 c6 r)]):=by
 refine Fun.intro Tryz.func24 rfl rfl rfl fun w R=>?_;refine .ab [0] rfl<|.a 3 rfl<|.lb 1 4 rfl<|.p rfl rfl<|.bd h fun l1 hl1 h=>.mkC (E:=(yJ zE)) hl1 rfl rfl rfl rfl rfl rfl rfl rfl rfl rfl rfl fun g1=>.b [0,3] rfl<|.seq<|.a 3 rfl<|.lb 1 5 rfl<|.b [3,15,16,17] rfl<|.bd h fun o1 hl1 h=>.cutK 1 (fun (e2:Option Addr × Nat)=>[.s 3 (.slice e2.1 o1.length e2.2)]) (fun e2=>[.res (xH (yJ zE) 64 e2.1 e2.2 o1)]) rfl rfl ?_ ?_
 ·refine .block<|.loopQ hl1 1 (fun (s1:List zB × Int) (e1:Option Addr × Nat)=>[.s 3 (.slice e1.1 s1.1.length e1.2),15,16, .s 17 (.int .i64 s1.2)]) (fun s1 e1=>[.res (xH (yJ zE) 64 e1.1 e1.2 s1.1)]) rfl rfl ((some ⟨g1,0,none⟩),(Int.toNat (a_p0.devices.length:Int))) (zb rfl) (fun _ w=>w) ?_;rintro s1 ⟨A6,c6⟩ st1 hm1 hd1 h1;refine .ae rfl<|.seq<|.cb h1 rfl (fun h1=>?_) (fun h1=>?_)
  ·refine .sk<|.pr [3,15,16,17] rfl<|.seq<|.block<|.seq<|.region<|.bd h1 fun x1 hx1 h1=>.ixC hx1 rfl rfl rfl (zm 6 rfl) rfl rfl rfl rfl rfl fun g2 hA=>?_;subst hA;refine .ldC (ls:=zE) 0 (fun ex=>.agg (zO x1 ex.1.1 ex.1.2 ex.2.1.1 ex.2.1.2).toArray) hx1 rfl rfl (zm 6 rfl) rfl (fun _=>rfl) fun ex1=>?_;obtain ⟨⟨A8,c8⟩,⟨⟨A9,c9⟩,_⟩⟩:=ex1;refine .nm 9 rfl<|.alloc rfl rfl fun g3=>.sb 0 0 rfl<|.b [3,5,15,16,17] rfl<|.region<|.p rfl rfl<|.lb 0 0 rfl<|.bd h1 fun r1 hr1 h1=>.ct 12 [1,2] [] 0 (bO hr1) zUD rfl fun A10 c10 A11 c11=>.bS rfl fun g4=>.bd h1 fun l2 hl2 h1=>.appC (E:=(yJ zE)) hl2 rfl rfl rfl (.s (.s (.s (.s (.s (.s .z)))))) rfl rfl rfl rfl rfl rfl rfl rfl (zDK (ls:=zE) [(r1,((A10,c10),((A11,c11),())))] (.head _) rfl rfl rfl ⟨(.tail _ (.head _)),(zm 2 rfl),trivial⟩) rfl rfl fun A12 c12=>.p rfl rfl<|.done<|.blkN<|.thenN<|.pf [3,15,16,17] [0] 6 rfl rfl<|.region ?_;cases h1;exact .be rfl<|.ag (A12,c12) hm1 rfl zw
  refine .xq rfl ?_;cases h1;cases hd1 _ rfl
  exact .thenN<|.hE (A6,c6) rfl zw
 rintro ⟨A7,c7⟩;refine .ab [2] rfl ?_;cases h;exact .rv rfl rfl ⟨A7,c7,rfl,rfl⟩ (zl [5,5,0] 4 rfl)
theorem zUA:Ent Tryz.prog 28:=en Tryz.func28 (by kernel_rfl)
noncomputable def rS (a_p0:zI) (b_p1:zI):Option Bool:=
  bnd ((bif (a_p0.Name.toList==b_p1.Name.toList) then (bif ((a_p0.Version.Major==b_p1.Version.Major)&&((a_p0.Version.Minor==b_p1.Version.Minor)&&((a_p0.Version.Patch==b_p1.Version.Patch)&&true))) then (some ((zAp a_p0.Data).toList==(zAp b_p1.Data).toList)) else (some false)) else (some false):Option Bool)) fun o1=>some o1
end Go.Proofs.YtplchdlgdjcojaaGreatDoor
end
section
namespace Go.Proofs.YtplchdlgdjcojaaGreatDoor
open Go
set_option linter.unusedVariables false
set_option maxHeartbeats 4000000
set_option maxRecDepth 4000
theorem fT {a_p0 b_p1 A1 c1 A2 c2 r} (h:rS a_p0 b_p1=some r):
    Fun Tryz.prog 28 [.agg (xF a_p0 A1 c1).toArray, .agg (xF b_p1 A2 c2).toArray] [.ro (SlL eu8 A1 c1 a_p0.Data), .ro (SlL eu8 A2 c2 b_p1.Data)] (Val (.bool r)):=by
 refine Fun.intro Tryz.func28 rfl rfl rfl fun w R=>?_;refine .seq<|.region<|.box rfl rfl fun g1=>.box rfl rfl fun g2=>.b [2,3] rfl<|.seq<|.bd h fun o1 hj1 h=>.cu 4 [.s 4 (.bool o1)] [] rfl rfl ?_ ?_
 ·refine .region<|.p rfl rfl<|.lb 0 1 rfl<|.p rfl rfl<|.lb 0 0 rfl<|.n 2 rfl<|.gs 10 hj1 rfl (fun hj1=>?_) (fun hj1=>?_)
  ·refine .n 1 rfl<|.gOn rfl rfl<|.lb 1 1 rfl<|.n 1 rfl<|.gOn rfl rfl<|.lb 1 0 rfl<|.n 3 rfl<|.gs 17 hj1 rfl (fun hj1=>?_) (fun hj1=>?_)
   ·refine .n 1 rfl<|.gOn rfl rfl<|.lb 4 1 rfl<|.gOn rfl rfl<|.b2s rfl rfl rfl rfl rfl rfl rfl rfl rfl (iJ (E:=eu8) (.tail _ (.tail _ (.head _))))<|.n 1 rfl<|.gOn rfl rfl<|.lb 4 0 rfl<|.gOn rfl rfl<|.b2s rfl rfl rfl rfl rfl rfl rfl rfl rfl (iJ (E:=eu8) (.tail _ (.tail _ (.tail _ (.head _))))) ?_;cases hj1;exact .be rfl<|.hU rfl (zl [] 4 rfl)
   cases hj1;exact .be rfl<|.hU rfl (zl [] 4 rfl)
  cases hj1;exact .be rfl<|.hU rfl (zl [] 4 rfl)
 cases h;exact .rv rfl rfl ⟨rfl,rfl⟩ zw
theorem zXz:Ent Tryz.prog 83:=en Tryz.func83 (by kernel_rfl)
noncomputable def gC (a_p0:zB) (b_p1:zB):Option Bool:=
  bnd ((bif !(a_p0.Name.toList==b_p1.Name.toList) then (some true) else (bif (a_p0.Active != b_p1.Active) then (some true) else (bif (a_p0.Running != b_p1.Running) then (some true) else (some (!(a_p0.Trial==b_p1.Trial))))):Option Bool)) fun o1=>bif o1 then (some false) else (bnd ((bif (a_p0.Slots.e0.Sum != b_p1.Slots.e0.Sum) then (some true) else (bnd (rS a_p0.Slots.e0.Image b_p1.Slots.e0.Image) fun r1=>some (!r1)):Option Bool)) fun o2=>bif o2 then (some false) else (bnd ((bif (a_p0.Slots.e1.Sum != b_p1.Slots.e1.Sum) then (some true) else (bnd (rS a_p0.Slots.e1.Image b_p1.Slots.e1.Image) fun r2=>some (!r2)):Option Bool)) fun o3=>bif o3 then (some false) else (some true)))
theorem zJc {a_p0 b_p1 A1 c1 A2 c2 A3 c3 A4 c4 r} (h:gC a_p0 b_p1=some r):
    Fun Tryz.prog 83 [.agg (zO a_p0 A1 c1 A2 c2).toArray, .agg (zO b_p1 A3 c3 A4 c4).toArray] [.ro (SlL eu8 A1 c1 a_p0.Slots.e0.Image.Data), .ro (SlL eu8 A2 c2 a_p0.Slots.e1.Image.Data), .ro (SlL eu8 A3 c3 b_p1.Slots.e0.Image.Data), .ro (SlL eu8 A4 c4 b_p1.Slots.e1.Image.Data)] (Val (.bool r)):=by
 refine Fun.intro Tryz.func83 rfl rfl rfl fun w R=>?_;refine .seq<|.region<|.box rfl rfl fun g1=>.box rfl rfl fun g2=>.b [2,3] rfl<|.seq<|.seq<|.bd h fun o1 hj1 h=>.cu 0 [2,3, .s 31 (.bool o1)] [] rfl rfl ?_ ?_
 ·refine .region<|.p rfl rfl<|.lb 0 1 rfl<|.p rfl rfl<|.lb 0 0 rfl<|.n 2 rfl<|.gs 11 hj1 rfl (fun hj1=>?_) (fun hj1=>?_)
  ·cases hj1;exact .be rfl<|.hU rfl zw
  refine .n 1 rfl<|.gOn rfl rfl<|.lb 13 1 rfl<|.n 1 rfl<|.gOn rfl rfl<|.lb 13 0 rfl<|.n 3 rfl<|.gs 18 hj1 rfl (fun hj1=>?_) (fun hj1=>?_)
  ·cases hj1;exact .be rfl<|.hU rfl zw
  refine .n 1 rfl<|.gOn rfl rfl<|.lb 14 1 rfl<|.n 1 rfl<|.gOn rfl rfl<|.lb 14 0 rfl<|.n 3 rfl<|.gs 25 hj1 rfl (fun hj1=>?_) (fun hj1=>?_)
  ·cases hj1;exact .be rfl<|.hU rfl zw
  refine .n 1 rfl<|.gOn rfl rfl<|.lb 15 1 rfl<|.n 1 rfl<|.gOn rfl rfl<|.lb 15 0 rfl ?_;cases hj1;exact .be rfl<|.hU rfl zw
 refine .cb h rfl (fun h=>?_) (fun h=>?_)
 ·refine .abf [4] [] 6 rfl rfl ?_;cases h;exact .rv rfl rfl ⟨rfl,rfl⟩ zw
 refine .sk<|.pr [2,3] rfl<|.seq<|.ae rfl<|.block<|.rounds 9<|.round<|.seq<|.ab [2,3,5,33] rfl<|.condT rfl<|.sk<|.pr [2,3,5] rfl<|.seq<|.block<|.seq<|.bd h fun o2 hj2 h=>.cu 0 [2,3,5, .s 60 (.bool o2)] [] rfl rfl ?_ ?_
 ·refine .regionF mixed (by kernel_rfl)<|.n 4 rfl<|.lb 6 1 rfl<|.n 4 rfl<|.lb 6 0 rfl<|.n 2 rfl<|.gs 47 hj2 rfl (fun hj2=>?_) (fun hj2=>?_)
  ·cases hj2;exact .beq rfl<|.hU rfl zw
  refine .n 4 rfl<|.gOn rfl rfl<|.lb 1 1 rfl<|.n 4 rfl<|.gOn rfl rfl<|.lb 1 0 rfl<|.gOn rfl rfl<|.bd hj2 fun r1 hr1 hj2=>.cv [2,4] (fT hr1) zUA rfl ?_;cases hj2;exact .beq rfl<|.hU rfl zw
 refine .cb h rfl (fun h=>?_) (fun h=>?_)
 ·refine .abf [4] [] 6 rfl rfl ?_;cases h;exact .rv rfl rfl ⟨rfl,rfl⟩ zw
 refine .skip<|.blkN<|.thenN<|.pr [2,3,5] rfl<|.region<|.be rfl<|.round<|.pr [2,3,5] rfl<|.seq<|.ab [2,3,5,33] rfl<|.condT rfl<|.sk<|.pr [2,3,5] rfl<|.seq<|.block<|.seq<|.bd h fun o3 hj3 h=>.cu 0 [2,3,5, .s 60 (.bool o3)] [] rfl rfl ?_ ?_
 ·refine .regionF mixed (by kernel_rfl)<|.n 4 rfl<|.lb 12 1 rfl<|.n 4 rfl<|.lb 12 0 rfl<|.n 2 rfl<|.gs 47 hj3 rfl (fun hj3=>?_) (fun hj3=>?_)
  ·cases hj3;exact .beq rfl<|.hU rfl zw
  refine .n 4 rfl<|.gOn rfl rfl<|.lb 7 1 rfl<|.n 4 rfl<|.gOn rfl rfl<|.lb 7 0 rfl<|.gOn rfl rfl<|.bd hj3 fun r2 hr2 hj3=>.cv [3,5] (fT hr2) zUA rfl ?_;cases hj3;exact .beq rfl<|.hU rfl zw
 refine .cb h rfl (fun h=>?_) (fun h=>?_)
 ·refine .abf [4] [] 6 rfl rfl ?_;cases h;exact .rv rfl rfl ⟨rfl,rfl⟩ zw
 refine .skip<|.blkN<|.thenN<|.pr [2,3,5] rfl<|.region<|.be rfl<|.round<|.pr [2,3,5] rfl<|.seq<|.ab [2,3,5,33] rfl<|.condF rfl<|.xq rfl<|.thenN<|.pf [] [] 6 rfl rfl<|.ae rfl ?_;cases h;exact .rv rfl rfl ⟨rfl,rfl⟩ zw
theorem zWO:Ent Tryz.prog 23:=en Tryz.func23 (by kernel_rfl)
noncomputable def uJ (a_p0:(List zB)) (b_p1:(List zB)):Option Bool:=
  bif ((a_p0.length:Int) != (b_p1.length:Int)) then (some false) else (bnd (yE (τ:=Bool ⊕ Unit) (fun (s1:Int)=>bif decide (s1<(a_p0.length:Int)) then (bnd (elt a_p0 s1) fun x1=>bnd (elt b_p1 s1) fun x2=>bnd (gC x1 x2) fun r1=>bif !r1 then (some (.done (.inl false))) else (some (.next (IntKind.wrap .i64 (s1+1))))) else (some (.done (.inr ())))) 0) fun o1=>wS o1 fun o2=>some true)
theorem zEh {a_p0 b_p1 A1 c1 A2 c2 r} (h:uJ a_p0 b_p1=some r):
    Fun Tryz.prog 23 [.slice A1 a_p0.length c1, .slice A2 b_p1.length c2] [.ro (Sl (yJ zE) A1 c1 a_p0), .ro (Sl (yJ zE) A2 c2 b_p1)] (Val (.bool r)):=by
 refine Fun.intro Tryz.func23 rfl rfl rfl fun w R=>?_;refine .ab [0,1] rfl<|.seq<|.ab [0,1,10] rfl<|.cb h rfl (fun h=>?_) (fun h=>?_)
 ·refine .abf [4] [] 2 rfl rfl ?_;cases h;exact .rv rfl rfl ⟨rfl,rfl⟩ zw
 refine .sk<|.pr [0,1] rfl<|.seq<|.ae rfl<|.bd h fun o1 hl1 h=>.cutJ 2 (fun (o2:Unit) (e2:Unit)=>[]) (fun o2 e2=>[]) rfl rfl (fun o2=>o1= .inr o2) ?_ ?_
 ·refine .block<|.loopQ hl1 0 (fun (s1:Int) (e1:Unit)=>[0,1, .s 5 (.int .i64 s1)]) (fun s1 e1=>[]) rfl rfl () (zb rfl) (fun _ w=>w) ?_;rintro s1 e1 st1 hm1 hd1 h1;refine .seq<|.ab [0,1,5,14] rfl<|.cb h1 rfl (fun h1=>?_) (fun h1=>?_)
  ·refine .sk<|.pr [0,1,5] rfl<|.seq<|.block<|.seq<|.regionF mixed (by kernel_rfl)<|.n 2 rfl<|.bd h1 fun x1 hx1 h1=>.ix3 hx1 0 rfl fun b1 ob1 ex1=>?_;obtain ⟨⟨A3,c3⟩,⟨⟨A4,c4⟩,_⟩⟩:=ex1;refine .nm 5 rfl<|.ld ob1 0 0 rfl<|.n 2 rfl<|.bd h1 fun x2 hx2 h1=>.ix3 hx2 4 rfl fun b2 ob2 ex2=>?_;obtain ⟨⟨A5,c5⟩,⟨⟨A6,c6⟩,_⟩⟩:=ex2;refine .nm 8 rfl<|.ld ob2 0 0 rfl<|.bd h1 fun r1 hr1 h1=>.cv [4,5,1,2] (zJc hr1) zXz rfl<|.beq rfl<|.pf [0,1,5,26] [] 6 rfl rfl<|.cb h1 rfl (fun h1=>?_) (fun h1=>?_)
   ·refine .abf [4] [] 2 rfl rfl ?_;cases h1;cases hd1 _ rfl
    have h:some _=some _:=h;cases h;exact .rv rfl rfl ⟨rfl,rfl⟩ zw
   refine .skip<|.blkN<|.thenN<|.pr [0,1,5] rfl<|.region ?_;cases h1;exact .be rfl<|.ag () hm1 rfl zw
  refine .xq rfl ?_;cases h1;cases hd1 _ rfl
  exact .thenN<|.hereI () () rfl trivial (zl [] 2 rfl)
 rintro o2 e2 ho;subst ho;have h:=unR h;refine .ae rfl ?_;cases h;exact .rv rfl rfl ⟨rfl,rfl⟩ zw
theorem zWY:Ent Tryz.prog 37:=en Tryz.func37 (by kernel_rfl)
noncomputable def jB (c_p0:xQ):Option (xQ × zA × zC × (List Int) × (List zU) × zD):=
  bnd (sV c_p0 4) fun r1=>bnd (jJ r1.1 r1.2) fun r2=>bnd (mW 2 1024) fun r3=>aA r3.1 (bif (r3.2 != 0) then (none) else (none)) (fun q1=>bif (r3.2 != 0) then (none) else (bnd (xI q1 0) fun r4=>aA r4.2.1 (none) (fun q2=>bnd (xS q2 r1.2 r2.2 r4.1) fun r5=>aA r5.2.2.1 (bnd ((bif (r4.2.2 != 0) then (some true) else (some (r5.2.2.2 != 0)):Option Bool)) fun o1=>bif o1 then (none) else (bnd (pV r2.1 r1.2 r2.2) fun r6=>none)) (fun q3=>bnd ((bif (r4.2.2 != 0) then (some true) else (some (r5.2.2.2 != 0)):Option Bool)) fun o2=>bif o2 then (none) else (bnd (pV r2.1 r1.2 r2.2) fun r7=>some (r7.1,r5.2.1,q3,r7.2,r2.2,r5.1))))))
theorem zGB {c_p0 A1 c1 gb1 r} (h:jB c_p0=some r):
    Fun Tryz.prog 37 [.pointer (some ⟨gb1,0,none⟩)] [.ro (SlL eu8 A1 c1 c_p0.L), .ro (zDj 0 [(2,some 315),(3,some 316)]), .res (Box gb1 127 [.slice A1 c_p0.L.length c1, .int .i64 c_p0.At])] (fun v F=>∃ g1 g2 g3 A2 c2 A3 c3 A4 c4 A5 c5 A6 c6 A7 c7 A8 c8 A9 c9 A10 c10 A11 c11 M1,v= .tuple #[.pointer (some ⟨g1,0,none⟩), .pointer (some ⟨g2,0,none⟩), .slice A10 r.2.2.2.1.length c10, .slice A11 r.2.2.2.2.1.length c11]∧F= [.ro (SlL eu8 A2 c2 r.1.L), .ro (SlL zP A6 c6 r.2.2.1.needs), .ro (SlL yS A7 c7 r.2.2.1.load.Have), .ro (SlL eu8 A8 c8 r.2.2.1.load.Data), .ro (SlL yC A9 c9 r.2.2.1.order), .ro (SlL zP A11 c11 r.2.2.2.2.1), .res (Box gb1 127 [.slice A2 r.1.L.length c2, .int .i64 r.1.At]), .res (Box g1 131 (zG r.2.1 A3 c3 A4 c4)), .res (zL eu8 5 A3 c3 r.2.1.bytes), .res (zL yC 3 A4 c4 r.2.1.wear), .res (Box g2 144 (zH r.2.2.1 g3 A5 c5 A6 c6 A7 c7 A8 c8 A9 c9)), .res (xH (yJ zE) 64 A5 c5 r.2.2.1.devices), .res (zL eu8 5 A10 c10 r.2.2.2.1), .res (Box g3 135 (zM r.2.2.2.2.2 g1 M1)), .res (yP (yB .u8) (cod eu8) M1 r.2.2.2.2.2.all)]):=by
 refine Fun.intro Tryz.func37 rfl rfl rfl fun w R=>?_;refine .ab [0] rfl<|.a 1 rfl<|.bd h fun r1 hr1 h=>.ct 5 [1] [2] 0 (bV hr1) zXd rfl fun A2 c2 A3 c3=>.bf [0,6] [0,0,0] 1 rfl rfl<|.a 2 rfl<|.asrt (fun _ w=>(w.sl [2] 0 rfl).meltC)<|.bd h fun r2 hr2 h=>.ct 6 [2,1] [2] 0 (zGz hr2) zWK rfl fun A4 c4 A5 c5=>.bf [0,6,7] [0,0,0,0] 1 rfl rfl<|.seq<|.region<|.bd h fun r3 hr3 h=>.call (zDW hr3) zUN rfl rfl rfl (fun _ w=>w) ?_
 intro v_ F_ hp_
 rcases hq1:r3.1 with _ | q1
 ·replace hp_:=zAs hq1 hp_;replace h:=zAl hq1 h;obtain ⟨rfl,rfl⟩:=hp_;refine .nm 5 rfl<|.b [0,6,7,8,9] rfl<|.seq<|.ab [0,6,7,8,23] rfl<|.cb h rfl (fun h=>?_) (fun h=>?_)
  ·refine .abf [2,3,4,5] [0,0] 2 rfl rfl ?_;cases h
  refine .sk<|.pr [0,6,7,8] rfl<|.a 1 rfl ?_;cases h
 replace hp_:=zAb hq1 hp_;replace h:=aM hq1 h;obtain ⟨g1,A6,c6,A7,c7,rfl,rfl⟩:=hp_;refine .nm 8 rfl<|.b [0,6,7,8,9] rfl<|.seq<|.ab [0,6,7,8,23] rfl<|.cb h rfl (fun h=>?_) (fun h=>?_)
 ·refine .abf [2,3,4,5] [3,3] 5 rfl rfl ?_;cases h
 refine .sk<|.pr [0,6,7,8] rfl<|.a 1 rfl<|.bd h fun r4 hr4 h=>.call (iH hr4) zRj rfl rfl rfl (fun _ w=>w) ?_
 intro v_ F_ hp_
 rcases hq2:r4.2.1 with _ | q2
 ·replace hp_:=zAs hq2 hp_;replace h:=zAl hq2 h;obtain ⟨A8,c8,A9,c9,rfl,rfl⟩:=hp_;refine .nm 8 rfl<|.b [0,6,7,8,9,10] rfl<|.a 3 rfl ?_;cases h
 replace hp_:=zAb hq2 hp_;replace h:=aM hq2 h;obtain ⟨g2,A10,c10,A11,c11,M1,rfl,rfl⟩:=hp_;refine .nm 10 rfl<|.b [0,6,7,8,9,10] rfl<|.a 3 rfl<|.asrt (fun _ w=>(w.sl [7] 0 rfl).meltL)<|.bd h fun r5 hr5 h=>.call (dA (gb1:=g2) (gb2:=g1) hr5) zRa rfl rfl rfl (zd [8,5,9] [4,4,1,1,1] 0 rfl) ?_
 intro v_ F_ hp_
 rcases hq3:r5.2.2.1 with _ | q3
 ·replace hp_:=zAs hq3 hp_;replace h:=zAl hq3 h;obtain ⟨M2,A12,c12,A13,c13,rfl,rfl⟩:=hp_;refine .nm 10 rfl<|.bf [0,6,7,8,9,11,12] [] 2 rfl rfl<|.seq<|.seq<|.bd h fun o1 hj1 h=>.cu 0 [0,6,7,8,11, .s 41 (.bool o1)] [] rfl rfl ?_ ?_
  ·refine .region<|.n 3 rfl<|.gs 38 hj1 rfl (fun hj1=>?_) (fun hj1=>?_)
   ·cases hj1;exact .be rfl<|.hU rfl zw
   cases hj1;exact .be rfl<|.hU rfl zw
  refine .cb h rfl (fun h=>?_) (fun h=>?_)
  ·refine .abf [2,3,4,5] [4,4] 5 rfl rfl ?_;cases h
  refine .sk<|.pr [0,6,7,8,11] rfl<|.a 5 rfl<|.bd h fun r6 hr6 h=>.ct 10 [5,6,4] [5] 0 (zAX hr6) zUH rfl fun A21 c21 A22 c22=>.bf [2,3,4,5] [0,0,0,0,0,0,0] 2 rfl rfl ?_;cases h
 replace hp_:=zAb hq3 hp_;replace h:=aM hq3 h;obtain ⟨g3,M3,A14,c14,A15,c15,A16,c16,A17,c17,A18,c18,A19,c19,A20,c20,rfl,rfl⟩:=hp_;refine .nm 16 rfl<|.b [0,6,7,8,9,11,12] rfl<|.seq<|.seq<|.bd h fun o2 hj2 h=>.cu 0 [0,6,7,8,11, .s 41 (.bool o2)] [] rfl rfl ?_ ?_
 ·refine .region<|.n 3 rfl<|.gs 38 hj2 rfl (fun hj2=>?_) (fun hj2=>?_)
  ·cases hj2;exact .be rfl<|.hU rfl zw
  cases hj2;exact .be rfl<|.hU rfl zw
 refine .cb h rfl (fun h=>?_) (fun h=>?_)
 ·refine .abf [2,3,4,5] [12,12] 13 rfl rfl ?_;cases h
 refine .sk<|.pr [0,6,7,8,11] rfl<|.a 5 rfl<|.bd h fun r7 hr7 h=>.ct 18 [13,14,12] [13] 0 (zAX hr7) zUH rfl fun A23 c23 A24 c24=>.bf [2,3,4,5] [0,0,0,0,0,0,0,0,0,0,0,0,0,0,0] 2 rfl rfl ?_;cases h;exact .rv rfl rfl ⟨g1,g3,g2,A23,c23,A14,c14,A15,c15,A16,c16,A17,c17,A18,c18,A19,c19,A20,c20,A24,c24,A5,c5,M3,rfl,rfl⟩ (zk 15 7 [9,10,11,12,13,14] [1,8,8,8,8,8,1,5,5] 0 rfl)
theorem zVC:Ent Tryz.prog 171:=en Tryz.func171 (by kernel_rfl)
noncomputable def rH (d_p0:xA) (most:Int):Option (List Int):=
  bnd (uU d_p0) fun r1=>bif !r1 then (some ([])) else (bnd (yE (τ:=List Int) (fun (s1:List Int × Int)=>bif decide (s1.2<(d_p0.Have.length:Int)) then (bnd (elt d_p0.Have s1.2) fun x1=>bnd ((bif !x1 then (some (decide ((s1.1.length:Int)<most))) else (some false):Option Bool)) fun o2=>bif o2 then (bnd (app 8 s1.1 [s1.2]) fun l1=>some (.next (l1,IntKind.wrap .i64 (s1.2+1)))) else (some (.next (s1.1,IntKind.wrap .i64 (s1.2+1))))) else (some (.done s1.1))) ([],0)) fun o1=>some o1)
theorem zBG {d_p0 most A1 c1 A2 c2 r} (h:rH d_p0 most=some r):
    Fun Tryz.prog 171 [.agg (uW d_p0 A1 c1 A2 c2).toArray, .int .i64 most] [.ro (SlL yS A1 c1 d_p0.Have), .ro (SlL eu8 A2 c2 d_p0.Data)] (fun v F=>∃ A3 c3,v= .slice A3 r.length c3∧F= [.res (zL yC 3 A3 c3 r)]):=by
 refine Fun.intro Tryz.func171 rfl rfl rfl fun w R=>?_;refine .seq<|.region<|.box rfl rfl fun g1=>.b [1,2] rfl<|.seq<|.seq<|.region<|.lb 0 0 rfl<|.bd h fun r1 hr1 h=>.cv [1,2] (nK hr1) zIK rfl<|.b [1,2,10] rfl<|.cb h rfl (fun h=>?_) (fun h=>?_)
 ·refine .abf [4] [] 3 rfl rfl<|.asrt (fun _ w=>w.nilL yC 3) ?_;cases h;exact .rv rfl rfl ⟨none,0,rfl,rfl⟩ zw
 refine .sk<|.pr [1,2] rfl<|.ae rfl<|.seq<|.a 1 rfl<|.lb 2 0 rfl<|.bf [1,5,12,13,14] [1] 2 rfl rfl<|.asrt (fun _ w=>w.nilL yC 3)<|.bd h fun o1 hl1 h=>.cutK 2 (fun (e2:Option Addr × Nat)=>[.s 5 (.slice e2.1 o1.length e2.2)]) (fun e2=>[.res (zL yC 3 e2.1 e2.2 o1)]) rfl rfl ?_ ?_
 ·refine .block<|.loopQ hl1 1 (fun (s1:List Int × Int) (e1:Option Addr × Nat)=>[1, .s 5 (.slice e1.1 s1.1.length e1.2),12,13, .s 14 (.int .i64 s1.2)]) (fun s1 e1=>[.res (zL yC 3 e1.1 e1.2 s1.1)]) rfl rfl (none,0) (zb rfl) (fun _ w=>w) ?_;rintro s1 ⟨A3,c3⟩ st1 hm1 hd1 h1;refine .ae rfl<|.seq<|.cb h1 rfl (fun h1=>?_) (fun h1=>?_)
  ·refine .sk<|.pr [1,5,12,13,14] rfl<|.seq<|.block<|.a 1 rfl<|.bd h1 fun x1 hx1 h1=>.ix1 hx1 1 rfl fun b1 ob1=>.ld ob1 0 0 rfl<|.bf [1,5,6,7,12,13,14] [] 1 rfl rfl<|.seq<|.bd h1 fun o2 hj1 h1=>.cu 0 [1,5,6,12,13,14, .s 26 (.bool o2)] [] rfl rfl ?_ ?_
   ·refine .region<|.n 3 rfl<|.gs 21 hj1 rfl (fun hj1=>?_) (fun hj1=>?_)
    ·cases hj1;exact .be rfl<|.hU rfl zw
    cases hj1;exact .be rfl<|.hU rfl zw
   refine .cb h1 rfl (fun h1=>?_) (fun h1=>?_)
   ·refine .region<|.n 2 rfl<|.bS rfl fun g2=>.bd h1 fun l1 hl1 h1=>.app (E:=yC) hl1 rfl rfl rfl (.s .z) rfl rfl rfl rfl rfl rfl rfl rfl (eN (.head _) rfl rfl) rfl rfl fun A5 c5=>.p rfl rfl<|.done<|.blkN<|.thenN<|.pf [1,5,12,13,14] [0] 1 rfl rfl<|.region ?_;cases h1;exact .be rfl<|.ag (A5,c5) hm1 rfl zw
   refine .skip<|.blkN<|.thenN<|.pr [1,5,12,13,14] rfl<|.region ?_;cases h1;exact .be rfl<|.ag (A3,c3) hm1 rfl zw
  refine .xq rfl ?_;cases h1;cases hd1 _ rfl
  exact .thenN<|.hE (A3,c3) rfl (zl [0] 1 rfl)
 rintro ⟨A4,c4⟩;refine .ab [4] rfl ?_;cases h;exact .rv rfl rfl ⟨A4,c4,rfl,rfl⟩ zw
theorem zXb:Ent Tryz.prog 95:=en Tryz.func95 (by kernel_rfl)
noncomputable def sT (a_p0:zC) (most:Int):Option (List Int):=
  bif (a_p0.phase != 1) then (some ([])) else (bnd (rH a_p0.load most) fun r1=>some r1)
theorem bT {a_p0 most A1 c1 A2 c2 A3 c3 A4 c4 A5 c5 gb1 gb2 r} (h:sT a_p0 most=some r):
    Fun Tryz.prog 95 [.pointer (some ⟨gb1,0,none⟩), .int .i64 most] [.ro (SlL zP A2 c2 a_p0.needs), .ro (SlL yS A3 c3 a_p0.load.Have), .ro (SlL eu8 A4 c4 a_p0.load.Data), .ro (SlL yC A5 c5 a_p0.order), .res (Box gb1 144 (zH a_p0 gb2 A1 c1 A2 c2 A3 c3 A4 c4 A5 c5)), .res (xH (yJ zE) 64 A1 c1 a_p0.devices)] (fun v F=>∃ A6 c6,v= .slice A6 r.length c6∧F= [.res (Box gb1 144 (zH a_p0 gb2 A1 c1 A2 c2 A3 c3 A4 c4 A5 c5)), .res (xH (yJ zE) 64 A1 c1 a_p0.devices), .res (zL yC 3 A6 c6 r)]):=by
 refine Fun.intro Tryz.func95 rfl rfl rfl fun w R=>?_;refine .ab [0,1] rfl<|.seq<|.a 3 rfl<|.lb 3 4 rfl<|.b [0,1,9] rfl<|.cb h rfl (fun h=>?_) (fun h=>?_)
 ·refine .ab [4] rfl<|.asrt (fun _ w=>w.nilL yC 3) ?_;cases h;exact .rv rfl rfl ⟨none,0,rfl,rfl⟩ (zl [5,5,0] 4 rfl)
 refine .sk<|.pr [0,1] rfl<|.a 3 rfl<|.lb 4 4 rfl<|.p rfl rfl<|.bd h fun r1 hr1 h=>.cr 7 [1,2] [] 0 (zBG hr1) zVC rfl fun A6 c6=>.b [4] rfl ?_;cases h;exact .rv rfl rfl ⟨A6,c6,rfl,rfl⟩ (zl [5,5,0] 4 rfl)
theorem zWU:Ent Tryz.prog 39:=en Tryz.func39 (by kernel_rfl)
noncomputable def nJ (a_p0:zC) (b_p1:(List Int)):Option (zC × Bool):=
  bnd (wK a_p0 (b_p1.length:Int) 64) fun r1=>bif (r1.2 != 0) then (some (r1.1,false)) else (bnd (yE (τ:=(zC × Bool) ⊕ zC) (fun (s1:zC × Int)=>bif decide ((IntKind.wrap .i64 (s1.2*64))<(b_p1.length:Int)) then (bnd (sub b_p1 (IntKind.wrap .i64 (s1.2*64)) (min (b_p1.length:Int) (IntKind.wrap .i64 ((IntKind.wrap .i64 (s1.2+1))*64)))) fun l1=>bnd (vC s1.1 s1.2 l1) fun r2=>bif (r2.2 != 0) then (some (.done (.inl (r2.1,false)))) else (some (.next (r2.1,IntKind.wrap .i64 (s1.2+1))))) else (some (.done (.inr s1.1)))) (r1.1,0)) fun o1=>wS o1 fun o2=>bnd (sT o2 1) fun r3=>some (o2,((r3.length:Int)==0)))
theorem zJq {a_p0 b_p1 A1 c1 A2 c2 A3 c3 A4 c4 A5 c5 A6 c6 gb1 gb2 r} (h:nJ a_p0 b_p1=some r):
    Fun Tryz.prog 39 [.pointer (some ⟨gb1,0,none⟩), .slice A6 b_p1.length c6] [.ro (SlL zP A2 c2 a_p0.needs), .ro (SlL yS A3 c3 a_p0.load.Have), .ro (SlL eu8 A4 c4 a_p0.load.Data), .ro (SlL yC A5 c5 a_p0.order), .ro (SlL eu8 A6 c6 b_p1), .ro (zDj 0 [(2,some 315),(3,some 316)]), .res (Box gb1 144 (zH a_p0 gb2 A1 c1 A2 c2 A3 c3 A4 c4 A5 c5)), .res (xH (yJ zE) 64 A1 c1 a_p0.devices)] (fun v F=>∃ A7 c7 A8 c8 A9 c9 A10 c10 A11 c11,v= .bool r.2∧F= [.ro (SlL zP A8 c8 r.1.needs), .ro (SlL yS A9 c9 r.1.load.Have), .ro (SlL eu8 A10 c10 r.1.load.Data), .ro (SlL yC A11 c11 r.1.order), .res (Box gb1 144 (zH r.1 gb2 A7 c7 A8 c8 A9 c9 A10 c10 A11 c11)), .res (xH (yJ zE) 64 A7 c7 r.1.devices)]):=by
 refine Fun.intro Tryz.func39 rfl rfl rfl fun w R=>?_;refine .ab [0,1] rfl<|.seq<|.a 3 rfl<|.bd h fun r1 hr1 h=>.call (jX (gb1:=gb1) hr1) zUw rfl rfl rfl (zd [2,3,4,5,7] [6,6] 0 rfl) ?_;rintro _ _ ⟨A7,c7,A8,c8,A9,c9,A10,c10,A11,c11,rfl,rfl⟩;refine .nm 12 rfl<|.bf [0,1,10] [0,0,0,0,0,0] 4 rfl rfl<|.cb h rfl (fun h=>?_) (fun h=>?_)
 ·refine .abf [4] [0,0,0,0,0,0] 1 rfl rfl ?_;cases h;exact .rv rfl rfl ⟨A7,c7,A8,c8,A9,c9,A10,c10,A11,c11,rfl,rfl⟩ (zk 6 5 [2,3,4,5] [4,4] 0 rfl)
 refine .sk<|.pr [0,1] rfl<|.seq<|.ae rfl<|.bd h fun o1 hl1 h=>.cutJ 7 (fun (o2:zC) (e2:Option Addr × Nat × Option Addr × Nat × Option Addr × Nat × Option Addr × Nat × Option Addr × Nat)=>[0]) (fun o2 e2=>[.ro (SlL yC e2.2.2.2.2.2.2.2.2.1 e2.2.2.2.2.2.2.2.2.2 o2.order), .ro (SlL eu8 e2.2.2.2.2.2.2.1 e2.2.2.2.2.2.2.2.1 o2.load.Data), .ro (SlL yS e2.2.2.2.2.1 e2.2.2.2.2.2.1 o2.load.Have), .ro (SlL zP e2.2.2.1 e2.2.2.2.1 o2.needs), .res (xH (yJ zE) 64 e2.1 e2.2.1 o2.devices), .res (Box gb1 144 (zH o2 gb2 e2.1 e2.2.1 e2.2.2.1 e2.2.2.2.1 e2.2.2.2.2.1 e2.2.2.2.2.2.1 e2.2.2.2.2.2.2.1 e2.2.2.2.2.2.2.2.1 e2.2.2.2.2.2.2.2.2.1 e2.2.2.2.2.2.2.2.2.2))]) rfl rfl (fun o2=>o1= .inr o2) ?_ ?_
 ·refine .block<|.loopQ hl1 6 (fun (s1:zC × Int) (e1:Option Addr × Nat × Option Addr × Nat × Option Addr × Nat × Option Addr × Nat × Option Addr × Nat)=>[0,1, .s 5 (.int .i64 s1.2)]) (fun s1 e1=>[.ro (SlL yC e1.2.2.2.2.2.2.2.2.1 e1.2.2.2.2.2.2.2.2.2 s1.1.order), .ro (SlL eu8 e1.2.2.2.2.2.2.1 e1.2.2.2.2.2.2.2.1 s1.1.load.Data), .ro (SlL yS e1.2.2.2.2.1 e1.2.2.2.2.2.1 s1.1.load.Have), .ro (SlL zP e1.2.2.1 e1.2.2.2.1 s1.1.needs), .res (xH (yJ zE) 64 e1.1 e1.2.1 s1.1.devices), .res (Box gb1 144 (zH s1.1 gb2 e1.1 e1.2.1 e1.2.2.1 e1.2.2.2.1 e1.2.2.2.2.1 e1.2.2.2.2.2.1 e1.2.2.2.2.2.2.1 e1.2.2.2.2.2.2.2.1 e1.2.2.2.2.2.2.2.2.1 e1.2.2.2.2.2.2.2.2.2))]) rfl rfl (A7,c7,A8,c8,A9,c9,A10,c10,A11,c11) (zb rfl) (zl [3,2,1,0,1] 0 rfl) ?_;rintro s1 ⟨A12,c12,A13,c13,A14,c14,A15,c15,A16,c16⟩ st1 hm1 hd1 h1;refine .seq<|.ab [0,1,5,15] rfl<|.cb h1 rfl (fun h1=>?_) (fun h1=>?_)
  ·refine .sk<|.pr [0,1,5] rfl<|.seq<|.block<|.a 11 rfl<|.bd h1 fun l1 hl1 h1=>.sub (E:=(cod eu8)) rfl rfl (zm 6 rfl) rfl rfl rfl rfl rfl rfl rfl hl1 fun A22 c22=>.bd h1 fun r2 hr2 h1=>.call (nP (gb1:=gb1) hr2) zQg rfl rfl rfl (zd [6,5,4,3,2] [6,5] 0 rfl) ?_;rintro _ _ ⟨A23,c23,A24,c24,A25,c25,A26,c26,A27,c27,rfl,rfl⟩;refine .nm 13 rfl<|.bf [0,1,5,31] [0,0,0,0,0,0] 5 rfl rfl<|.cb h1 rfl (fun h1=>?_) (fun h1=>?_)
   ·refine .abf [4] [0,0,0,0,0,0] 1 rfl rfl ?_;cases h1;cases hd1 _ rfl
    have h:some _=some _:=h;cases h;exact .rv rfl rfl ⟨A23,c23,A24,c24,A25,c25,A26,c26,A27,c27,rfl,rfl⟩ (zk 6 5 [2,3,4,5] [4,4] 0 rfl)
   refine .skip<|.blkN<|.thenN<|.pr [0,1,5] rfl<|.region ?_;cases h1;exact .be rfl<|.ag (A23,c23,A24,c24,A25,c25,A26,c26,A27,c27) hm1 rfl (zl [3,2,1,0,1] 0 rfl)
  refine .xq rfl ?_;cases h1;cases hd1 _ rfl
  exact .thenN<|.hereI s1.1 (A12,c12,A13,c13,A14,c14,A15,c15,A16,c16) rfl (zb rfl) (zl [0,0,0,0,0,0] 1 rfl)
 rintro o2 ⟨A17,c17,A18,c18,A19,c19,A20,c20,A21,c21⟩ ho;subst ho;have h:=unR h;refine .a 1 rfl<|.bd h fun r3 hr3 h=>.cr 8 [5,4,3,2] [5,4] 0 (bT (gb1:=gb1) hr3) zXb rfl fun A28 c28=>.bf [4] [0,0] 1 rfl rfl ?_;cases h;exact .rv rfl rfl ⟨A17,c17,A18,c18,A19,c19,A20,c20,A21,c21,rfl,rfl⟩ (zk 6 5 [5,4,3,2] [] 0 rfl)
end Go.Proofs.YtplchdlgdjcojaaGreatDoor
end
section
namespace Go.Proofs.YtplchdlgdjcojaaGreatDoor
open Go
set_option linter.unusedVariables false
set_option maxHeartbeats 4000000
set_option maxRecDepth 4000
noncomputable def oB (codes:(List Int)) (at_p1:Int):Option Bool:=
  bnd (jI) fun r1=>bif !r1 then (some false) else (bnd (eB codes 200) fun r2=>bnd (jB r2) fun r3=>bnd ((bnd (nJ r3.2.2.1 r3.2.2.2.1) fun r4=>bif !r4.2 then (some (true,r3.2.1,r4.1,r3.2.2.2.2.2)) else (bnd (wC r4.1 r3.2.2.2.2.2 r3.2.1) fun r5=>some ((r5.2.2.2 != 0),r5.2.2.1,r5.1,r5.2.1)):Option (Bool × zA × zC × zD))) fun o1=>bif o1.1 then (some true) else (bnd (yE (τ:=Bool ⊕ (zA × (zC × zD) × List Int × Int)) (fun (s1:zA × (zC × zD) × Int × List Int × Int)=>bif decide (s1.2.2.1<9) then (bnd ((bif (s1.2.2.1==(IntKind.wrap .i64 (at_p1.tmod 9))) then (bnd (yO s1.2.1.1) fun r6=>bnd (yN s1.2.1.1) fun r7=>bnd (xI s1.1 0) fun r8=>aA r8.2.1 (none) (fun q1=>bnd (xS q1 r6 r3.2.2.2.2.1 r8.1) fun r9=>aA r9.2.2.1 (bnd ((bif (r8.2.2 != 0) then (some ()) else (bif (r9.2.2.2 != 0) then (some ()) else (some ())):Option Unit)) fun o6=>some (.inl false)) (fun q2=>bnd ((bif (r8.2.2 != 0) then (some true) else (bif (r9.2.2.2 != 0) then (some true) else (bnd (yN q2) fun r10=>bif (r10 != r7) then (some true) else (bnd (yO q2) fun r11=>bnd (uJ r11 r6) fun r12=>some (!r12)))):Option Bool)) fun o7=>bif o7 then (some (.inl false)) else (some (.inr ((q2,r9.1),r9.2.1)))))) else (some (.inr ((s1.2.1.1,s1.2.1.2),s1.1))):Option (Bool ⊕ ((zC × zD) × zA)))) fun o4=>zIZ (fun r_=>(.done (.inl r_))) o4 fun o5=>bnd (yN o5.1.1) fun r13=>bif (r13==0) then (some (.done (.inr (o5.2,(o5.1.1,o5.1.2),s1.2.2.2.1,s1.2.2.2.2)))) else (bnd (yG (⟨s1.2.2.2.1,s1.2.2.2.2⟩:xQ) 4) fun r14=>bnd (yY o5.1.1 (decide (r14.2<3)) o5.1.2 o5.2) fun r15=>bif (r15.2.2.2.2 != 0) then (some (.done (.inl false))) else (some (.next (r15.2.2.1,(r15.1,r15.2.1),IntKind.wrap .i64 (s1.2.2.1+1),r14.1.L,r14.1.At))))) else (some (.done (.inr (s1.1,(s1.2.1.1,s1.2.1.2),s1.2.2.2.1,s1.2.2.2.2))))) (o1.2.1,(o1.2.2.1,o1.2.2.2),0,r3.1.L,r3.1.At)) fun o2=>wS o2 fun o3=>bnd (yN o3.2.1.1) fun r16=>some (r16==0)))
theorem bP {codes at_p1 A1 c1 r} (h:oB codes at_p1=some r):
    Fun Tryz.prog 7 [.slice A1 codes.length c1, .int .u8 at_p1] [.ro (SlL eu8 A1 c1 codes), .ro (zDj 0 [(2,some 315),(3,some 316)])] (Val (.bool r)):=by
 refine Fun.intro Tryz.func7 rfl rfl rfl fun w R=>?_;refine .ab [0,1] rfl<|.seq<|.seq<|.region<|.bd h fun r1 hr1 h=>.cv [1] (zGU hr1) zXn rfl<|.b [0,1,20] rfl<|.cb h rfl (fun h=>?_) (fun h=>?_)
 ·refine .abf [4] [] 1 rfl rfl ?_;cases h;exact .rv rfl rfl ⟨rfl,rfl⟩ (zl [] 1 rfl)
 refine .sk<|.pr [0,1] rfl<|.a 1 rfl<|.bd h fun r2 hr2 h=>.call (zLz hr2) zXg rfl rfl rfl (zd [0] [] 0 rfl) ?_;rintro _ _ ⟨g1,A2,c2,rfl,rfl⟩;refine .nm 4 rfl<|.bf [1,5] [0,0] 1 rfl rfl<|.a 1 rfl<|.bd h fun r3 hr3 h=>.call (zGB hr3) zWY rfl rfl rfl (zd [1,2] [1] 0 rfl) ?_;rintro _ _ ⟨g2,g3,g4,A3,c3,A4,c4,A5,c5,A6,c6,A7,c7,A8,c8,A9,c9,A10,c10,A11,c11,A12,c12,M1,rfl,rfl⟩;refine .nm 17 rfl<|.bf [1,5,6,7,8,9] [0,0,0,0,0,0,0,0,0,0,0,0,0,0,0] 1 rfl rfl<|.seq<|.ab [1,5,6,7,8,9,31] rfl<|.condF rfl<|.sk<|.pr [1,5,6,7,8,9] rfl<|.seq<|.seq<|.bd h fun o1 hj1 h=>.cutK 15 (fun (e1:Option Addr × Nat × Option Addr × Nat × Option Addr × Nat × Option Addr × Nat × Option Addr × Nat × Option Addr × Nat × Option Addr × Nat × Option Nat)=>[1,5,6,7,9, .s 40 (.bool o1.1)]) (fun e1=>[.res (yP (yB .u8) (cod eu8) e1.2.2.2.2.2.2.2.2.2.2.2.2.2.2 o1.2.2.2.all), .ro (SlL yC e1.2.2.2.2.2.2.2.2.2.2.2.2.1 e1.2.2.2.2.2.2.2.2.2.2.2.2.2.1 o1.2.2.1.order), .ro (SlL eu8 e1.2.2.2.2.2.2.2.2.2.2.1 e1.2.2.2.2.2.2.2.2.2.2.2.1 o1.2.2.1.load.Data), .ro (SlL yS e1.2.2.2.2.2.2.2.2.1 e1.2.2.2.2.2.2.2.2.2.1 o1.2.2.1.load.Have), .ro (SlL zP e1.2.2.2.2.2.2.1 e1.2.2.2.2.2.2.2.1 o1.2.2.1.needs), .res (xH (yJ zE) 64 e1.2.2.2.2.1 e1.2.2.2.2.2.1 o1.2.2.1.devices), .res (zL yC 3 e1.2.2.1 e1.2.2.2.1 o1.2.1.wear), .res (zL eu8 5 e1.1 e1.2.1 o1.2.1.bytes),0,5,6, .res (Box g2 131 (zG o1.2.1 e1.1 e1.2.1 e1.2.2.1 e1.2.2.2.1)), .res (Box g3 144 (zH o1.2.2.1 g4 e1.2.2.2.2.1 e1.2.2.2.2.2.1 e1.2.2.2.2.2.2.1 e1.2.2.2.2.2.2.2.1 e1.2.2.2.2.2.2.2.2.1 e1.2.2.2.2.2.2.2.2.2.1 e1.2.2.2.2.2.2.2.2.2.2.1 e1.2.2.2.2.2.2.2.2.2.2.2.1 e1.2.2.2.2.2.2.2.2.2.2.2.2.1 e1.2.2.2.2.2.2.2.2.2.2.2.2.2.1)), .res (Box g4 135 (zM o1.2.2.2 g2 e1.2.2.2.2.2.2.2.2.2.2.2.2.2.2))]) rfl rfl ?_ ?_
 ·refine .region<|.n 2 rfl<|.asrt (fun _ w=>(w.sl [12] 0 rfl).meltL)<|.bd hj1 fun r4 hr4 hj1=>.call (zJq (gb1:=g3) hr4) zWU rfl rfl rfl (zd [4,5,6,7,2,15] [11,11] 0 rfl) ?_;rintro _ _ ⟨A20,c20,A21,c21,A22,c22,A23,c23,A24,c24,rfl,rfl⟩;refine .nm 20 rfl<|.n 2 rfl<|.gs 36 hj1 rfl (fun hj1=>?_) (fun hj1=>?_)
  ·cases hj1;exact .be rfl<|.hE (A4,c4,A5,c5,A20,c20,A21,c21,A22,c22,A23,c23,A24,c24,M1) rfl (zl [18,3,2,1,0,1,11,10,2,6,6,6,0] 5 rfl)
  refine .n 1 rfl<|.gOn rfl rfl<|.bd hj1 fun r5 hr5 hj1=>.call (kH (gb1:=g3) (gb2:=g4) (gb3:=g2) hr5) zUI rfl rfl rfl (zd [7,8,9,10] [4,4,15,15,12,12,12] 0 rfl) ?_;rintro _ _ ⟨A25,c25,A26,c26,A27,c27,A28,c28,A29,c29,M3,A30,c30,A31,c31,rfl,rfl⟩;refine .nm 24 rfl ?_;cases hj1;exact .be rfl<|.hE (A30,c30,A31,c31,A25,c25,A26,c26,A27,c27,A28,c28,A29,c29,M3) rfl (zl [7,3,2,1,0,1,4,3,8,12,12,2,0,0] 9 rfl)
 rintro ⟨A13,c13,A14,c14,A15,c15,A16,c16,A17,c17,A18,c18,A19,c19,M2⟩;refine .cb h rfl (fun h=>?_) (fun h=>?_)
 ·refine .abf [4] [] 14 rfl rfl ?_;cases h;exact .rv rfl rfl ⟨rfl,rfl⟩ (zl [] 1 rfl)
 refine .sk<|.pr [1,5,6,7,9] rfl<|.seq<|.ae rfl<|.bd h fun o2 hl1 h=>.cutJ 14 (fun (o3:zA × (zC × zD) × List Int × Int) (e3:Option Addr × Nat × Option Addr × Nat × Nat × Nat × Option Addr × Nat × Option Addr × Nat × Option Addr × Nat × Option Addr × Nat × Option Addr × Nat × Option Nat × Option Addr × Nat)=>[.s 7 (.pointer (some ⟨e3.2.2.2.2.1,0,none⟩))]) (fun o3 e3=>[.res (yP (yB .u8) (cod eu8) e3.2.2.2.2.2.2.2.2.2.2.2.2.2.2.2.2.1 o3.2.1.2.all), .ro (SlL yC e3.2.2.2.2.2.2.2.2.2.2.2.2.2.2.1 e3.2.2.2.2.2.2.2.2.2.2.2.2.2.2.2.1 o3.2.1.1.order), .ro (SlL eu8 e3.2.2.2.2.2.2.2.2.2.2.2.2.1 e3.2.2.2.2.2.2.2.2.2.2.2.2.2.1 o3.2.1.1.load.Data), .ro (SlL yS e3.2.2.2.2.2.2.2.2.2.2.1 e3.2.2.2.2.2.2.2.2.2.2.2.1 o3.2.1.1.load.Have), .ro (SlL zP e3.2.2.2.2.2.2.2.2.1 e3.2.2.2.2.2.2.2.2.2.1 o3.2.1.1.needs), .res (xH (yJ zE) 64 e3.2.2.2.2.2.2.1 e3.2.2.2.2.2.2.2.1 o3.2.1.1.devices), .res (zL yC 3 e3.2.2.1 e3.2.2.2.1 o3.1.wear), .res (zL eu8 5 e3.1 e3.2.1 o3.1.bytes), .res (Box e3.2.2.2.2.2.1 135 (zM o3.2.1.2 g2 e3.2.2.2.2.2.2.2.2.2.2.2.2.2.2.2.2.1)), .res (Box e3.2.2.2.2.1 144 (zH o3.2.1.1 e3.2.2.2.2.2.1 e3.2.2.2.2.2.2.1 e3.2.2.2.2.2.2.2.1 e3.2.2.2.2.2.2.2.2.1 e3.2.2.2.2.2.2.2.2.2.1 e3.2.2.2.2.2.2.2.2.2.2.1 e3.2.2.2.2.2.2.2.2.2.2.2.1 e3.2.2.2.2.2.2.2.2.2.2.2.2.1 e3.2.2.2.2.2.2.2.2.2.2.2.2.2.1 e3.2.2.2.2.2.2.2.2.2.2.2.2.2.2.1 e3.2.2.2.2.2.2.2.2.2.2.2.2.2.2.2.1)), .res (Box g2 131 (zG o3.1 e3.1 e3.2.1 e3.2.2.1 e3.2.2.2.1))]) rfl rfl (fun o3=>o2= .inr o3) ?_ ?_
 ·refine .block<|.loopQ hl1 14 (fun (s1:zA × (zC × zD) × Int × List Int × Int) (e2:Option Addr × Nat × Option Addr × Nat × Nat × Nat × Option Addr × Nat × Option Addr × Nat × Option Addr × Nat × Option Addr × Nat × Option Addr × Nat × Option Nat × Option Addr × Nat)=>[1,5,6, .s 7 (.pointer (some ⟨e2.2.2.2.2.1,0,none⟩)),9, .s 10 (.int .i64 s1.2.2.1)]) (fun s1 e2=>[.ro (SlL eu8 e2.2.2.2.2.2.2.2.2.2.2.2.2.2.2.2.2.2.1 e2.2.2.2.2.2.2.2.2.2.2.2.2.2.2.2.2.2.2 s1.2.2.2.1), .res (yP (yB .u8) (cod eu8) e2.2.2.2.2.2.2.2.2.2.2.2.2.2.2.2.2.1 s1.2.1.2.all), .ro (SlL yC e2.2.2.2.2.2.2.2.2.2.2.2.2.2.2.1 e2.2.2.2.2.2.2.2.2.2.2.2.2.2.2.2.1 s1.2.1.1.order), .ro (SlL eu8 e2.2.2.2.2.2.2.2.2.2.2.2.2.1 e2.2.2.2.2.2.2.2.2.2.2.2.2.2.1 s1.2.1.1.load.Data), .ro (SlL yS e2.2.2.2.2.2.2.2.2.2.2.1 e2.2.2.2.2.2.2.2.2.2.2.2.1 s1.2.1.1.load.Have), .ro (SlL zP e2.2.2.2.2.2.2.2.2.1 e2.2.2.2.2.2.2.2.2.2.1 s1.2.1.1.needs), .res (xH (yJ zE) 64 e2.2.2.2.2.2.2.1 e2.2.2.2.2.2.2.2.1 s1.2.1.1.devices), .res (zL yC 3 e2.2.2.1 e2.2.2.2.1 s1.1.wear), .res (zL eu8 5 e2.1 e2.2.1 s1.1.bytes), .res (Box e2.2.2.2.2.2.1 135 (zM s1.2.1.2 g2 e2.2.2.2.2.2.2.2.2.2.2.2.2.2.2.2.2.1)), .res (Box e2.2.2.2.2.1 144 (zH s1.2.1.1 e2.2.2.2.2.2.1 e2.2.2.2.2.2.2.1 e2.2.2.2.2.2.2.2.1 e2.2.2.2.2.2.2.2.2.1 e2.2.2.2.2.2.2.2.2.2.1 e2.2.2.2.2.2.2.2.2.2.2.1 e2.2.2.2.2.2.2.2.2.2.2.2.1 e2.2.2.2.2.2.2.2.2.2.2.2.2.1 e2.2.2.2.2.2.2.2.2.2.2.2.2.2.1 e2.2.2.2.2.2.2.2.2.2.2.2.2.2.2.1 e2.2.2.2.2.2.2.2.2.2.2.2.2.2.2.2.1)),9, .res (Box g1 127 [.slice e2.2.2.2.2.2.2.2.2.2.2.2.2.2.2.2.2.2.1 s1.2.2.2.1.length e2.2.2.2.2.2.2.2.2.2.2.2.2.2.2.2.2.2.2, .int .i64 s1.2.2.2.2]), .res (Box g2 131 (zG s1.1 e2.1 e2.2.1 e2.2.2.1 e2.2.2.2.1))]) rfl rfl (A13,c13,A14,c14,g3,g4,A15,c15,A16,c16,A17,c17,A18,c18,A19,c19,M2,A3,c3) (zb rfl) (zl [8,0,0,0,0,0,0,0,0,4,3] 0 rfl) ?_;rintro s1 ⟨A32,c32,A33,c33,g5,g6,A34,c34,A35,c35,A36,c36,A37,c37,A38,c38,M4,A39,c39⟩ st1 hm1 hd1 h1;refine .seq<|.ab [1,5,6,7,9,10,42] rfl<|.cb h1 rfl (fun h1=>?_) (fun h1=>?_)
  ·refine .sk<|.pr [1,5,6,7,9,10] rfl<|.seq<|.block<|.seq<|.bd h1 fun o4 hj2 h1=>.cutJ 14 (fun (o5:(zC × zD) × zA) (e4:Nat × Nat × Option Addr × Nat × Option Addr × Nat × Option Addr × Nat × Option Addr × Nat × Option Addr × Nat × Option Nat × Option Addr × Nat × Option Addr × Nat)=>[1,5,6, .s 7 (.pointer (some ⟨e4.1,0,none⟩)),9,10]) (fun o5 e4=>[.res (zL yC 3 e4.2.2.2.2.2.2.2.2.2.2.2.2.2.2.2.1 e4.2.2.2.2.2.2.2.2.2.2.2.2.2.2.2.2 o5.2.wear), .res (zL eu8 5 e4.2.2.2.2.2.2.2.2.2.2.2.2.2.1 e4.2.2.2.2.2.2.2.2.2.2.2.2.2.2.1 o5.2.bytes), .res (yP (yB .u8) (cod eu8) e4.2.2.2.2.2.2.2.2.2.2.2.2.1 o5.1.2.all), .ro (SlL yC e4.2.2.2.2.2.2.2.2.2.2.1 e4.2.2.2.2.2.2.2.2.2.2.2.1 o5.1.1.order), .ro (SlL eu8 e4.2.2.2.2.2.2.2.2.1 e4.2.2.2.2.2.2.2.2.2.1 o5.1.1.load.Data), .ro (SlL yS e4.2.2.2.2.2.2.1 e4.2.2.2.2.2.2.2.1 o5.1.1.load.Have), .ro (SlL zP e4.2.2.2.2.1 e4.2.2.2.2.2.1 o5.1.1.needs), .res (xH (yJ zE) 64 e4.2.2.1 e4.2.2.2.1 o5.1.1.devices), .res (Box e4.2.1 135 (zM o5.1.2 g2 e4.2.2.2.2.2.2.2.2.2.2.2.2.1)), .res (Box e4.1 144 (zH o5.1.1 e4.2.1 e4.2.2.1 e4.2.2.2.1 e4.2.2.2.2.1 e4.2.2.2.2.2.1 e4.2.2.2.2.2.2.1 e4.2.2.2.2.2.2.2.1 e4.2.2.2.2.2.2.2.2.1 e4.2.2.2.2.2.2.2.2.2.1 e4.2.2.2.2.2.2.2.2.2.2.1 e4.2.2.2.2.2.2.2.2.2.2.2.1)),0,11,12, .res (Box g2 131 (zG o5.2 e4.2.2.2.2.2.2.2.2.2.2.2.2.2.1 e4.2.2.2.2.2.2.2.2.2.2.2.2.2.2.1 e4.2.2.2.2.2.2.2.2.2.2.2.2.2.2.2.1 e4.2.2.2.2.2.2.2.2.2.2.2.2.2.2.2.2))]) rfl rfl (fun o5=>o4= .inr o5) ?_ ?_
   ·refine .ab [1,5,6,7,9,10,49] rfl<|.cb hj2 rfl (fun hj2=>?_) (fun hj2=>?_)
    ·refine .a 1 rfl<|.bd hj2 fun r6 hr6 hj2=>.cr 16 [7,6,5,4] [10,6] 0 (lD (gb1:=g5) hr6) zUJ rfl fun A55 c55=>.p rfl rfl<|.bd hj2 fun r7 hr7 hj2=>.cq 16 [8,7,6,5] [] 0 (tC (gb1:=g5) hr7) zJS rfl<|.bf [1,5,6,9,10,11,12] [2,2,7,7] 8 rfl rfl<|.a 1 rfl<|.bd hj2 fun r8 hr8 hj2=>.call (iH hr8) zRj rfl rfl rfl (zl [6,3,2] 0 rfl) ?_
     intro v_ F_ hp_
     rcases hq1:r8.2.1 with _ | q1
     ·replace hp_:=zAs hq1 hp_;replace hj2:=zAl hq1 hj2;obtain ⟨A56,c56,A57,c57,rfl,rfl⟩:=hp_;refine .nm 8 rfl<|.b [1,5,6,9,10,11,12,13,14] rfl<|.a 3 rfl ?_;cases hj2
     replace hp_:=zAb hq1 hp_;replace hj2:=aM hq1 hj2;obtain ⟨g11,A58,c58,A59,c59,M7,rfl,rfl⟩:=hp_;refine .nm 10 rfl<|.b [1,5,6,9,10,11,12,13,14] rfl<|.a 3 rfl<|.asrt (fun _ w=>(w.sl [5] 0 rfl).meltC)<|.bd hj2 fun r9 hr9 hj2=>.call (dA (gb1:=g11) (gb2:=g2) hr9) zRa rfl rfl rfl (zd [5,7,9] [4,4,1,1,1] 0 rfl) ?_
     intro v_ F_ hp_
     rcases hq2:r9.2.2.1 with _ | q2
     ·replace hp_:=zAs hq2 hp_;replace hj2:=zAl hq2 hj2;obtain ⟨M8,A60,c60,A61,c61,rfl,rfl⟩:=hp_;refine .nm 10 rfl<|.bf [1,5,6,9,10,11,12,14,15,16] [] 2 rfl rfl<|.seq<|.seq<|.bd hj2 fun o6 hj3 hj2=>.cu 4 [1,5,6,9,10,15, .s 88 (.bool true)] [0,1,2] rfl rfl ?_ ?_
      ·refine .region<|.n 3 rfl<|.gs 68 hj3 rfl (fun hj3=>?_) (fun hj3=>?_)
       ·cases hj3;exact .be rfl<|.hU rfl (zl [0,0,0] 1 rfl)
       refine .n 4 rfl<|.gs 72 hj3 rfl (fun hj3=>?_) (fun hj3=>?_)
       ·cases hj3;exact .be rfl<|.hU rfl (zl [0,0,0] 1 rfl)
       cases hj3;exact .be rfl<|.hU rfl (zl [0,0,0] 1 rfl)
      refine .condT rfl<|.abf [4] [] 6 rfl rfl ?_;cases hj2;have h1:some _=some _:=h1;cases h1;cases hd1 _ rfl
      have h:some _=some _:=h;cases h;exact .rv rfl rfl ⟨rfl,rfl⟩ (zl [] 1 rfl)
     replace hp_:=zAb hq2 hp_;replace hj2:=aM hq2 hj2;obtain ⟨g12,M9,A62,c62,A63,c63,A64,c64,A65,c65,A66,c66,A67,c67,A68,c68,rfl,rfl⟩:=hp_;refine .nm 16 rfl<|.b [1,5,6,9,10,11,12,14,15,16] rfl<|.seq<|.seq<|.bd hj2 fun o7 hj4 hj2=>.cu 12 [1,5,6,9,10,15, .s 88 (.bool o7)] [0,1,2,3,4,5,6,7,8,9,10] rfl rfl ?_ ?_
     ·refine .region<|.n 3 rfl<|.gs 68 hj4 rfl (fun hj4=>?_) (fun hj4=>?_)
      ·cases hj4;exact .be rfl<|.hU rfl (zl [0,0,0,0,0,0,0,0,0,0,0] 1 rfl)
      refine .n 4 rfl<|.gs 72 hj4 rfl (fun hj4=>?_) (fun hj4=>?_)
      ·cases hj4;exact .be rfl<|.hU rfl (zl [0,0,0,0,0,0,0,0,0,0,0] 1 rfl)
      refine .n 5 rfl<|.gOn rfl rfl<|.bd hj4 fun r10 hr10 hj4=>.cq 16 [2,3,4,5] [9,9] 0 (tC (gb1:=g12) hr10) zJS rfl<|.n 4 rfl<|.gs 82 hj4 rfl (fun hj4=>?_) (fun hj4=>?_)
      ·cases hj4;exact .be rfl<|.hU rfl (zl [2,2,2,2,2,2,2,2,2,0,0] 1 rfl)
      refine .n 1 rfl<|.gOn rfl rfl<|.bd hj4 fun r11 hr11 hj4=>.cr 17 [2,3,4,5] [] 0 (lD (gb1:=g12) hr11) zUJ rfl fun A69 c69=>.n 1 rfl<|.gOn rfl rfl<|.asrt (fun _ w=>(w.sl [2] 0 rfl).meltC)<|.bd hj4 fun r12 hr12 hj4=>.cv [0,12] (zEh hr12) zWO rfl ?_;cases hj4;exact .be rfl<|.hU rfl (zl [3,3,3,3,3,3,3,3,3,1,1] 2 rfl)
     refine .cb hj2 rfl (fun hj2=>?_) (fun hj2=>?_)
     ·refine .abf [4] [] 14 rfl rfl ?_;cases hj2;have h1:some _=some _:=h1;cases h1;cases hd1 _ rfl
      have h:some _=some _:=h;cases h;exact .rv rfl rfl ⟨rfl,rfl⟩ (zl [] 1 rfl)
     refine .sk<|.pr [1,5,6,9,10,15] rfl<|.region ?_;cases hj2;exact .be rfl<|.hereI ((q2,r9.1),r9.2.1) (g12,g11,A64,c64,A65,c65,A66,c66,A67,c67,A68,c68,M9,A62,c62,A63,c63) rfl (zb rfl) (zl [8,7,5,3,2,1,0,3,0,1,1,1,1] 0 rfl)
    cases hj2;exact .sk<|.hereI ((s1.2.1.1,s1.2.1.2),s1.1) (g5,g6,A34,c34,A35,c35,A36,c36,A37,c37,A38,c38,M4,A32,c32,A33,c33) rfl (zb rfl) (zl [7,7,1,1,1,1,1,1,1,1] 0 rfl)
   rintro o5 ⟨g9,g10,A48,c48,A49,c49,A50,c50,A51,c51,A52,c52,M6,A53,c53,A54,c54⟩ ho;subst ho;have h1:=zXH h1;refine .seq<|.a 1 rfl<|.bd h1 fun r13 hr13 h1=>.cq 15 [8,7,6,5] [9,7] 0 (tC (gb1:=g9) hr13) zJS rfl<|.b [1,5,6,7,9,10,92] rfl<|.cb h1 rfl (fun h1=>?_) (fun h1=>?_)
   ·refine .xq rfl ?_;cases h1;cases hd1 _ rfl
    exact .thenN<|.hereI (o5.2,(o5.1.1,o5.1.2),s1.2.2.2.1,s1.2.2.2.2) (A53,c53,A54,c54,g9,g10,A48,c48,A49,c49,A50,c50,A51,c51,A52,c52,M6,A39,c39) rfl (zb rfl) (zl [4,4,4,4,4,1,1,1,1,0] 3 rfl)
   refine .sk<|.pr [1,5,6,7,9,10] rfl<|.a 2 rfl<|.bd h1 fun r14 hr14 h1=>.cr 16 [11] [12] 0 (yL hr14) kM rfl fun A70 c70=>.p rfl rfl<|.bd h1 fun r15 hr15 h1=>.call (nU (gb1:=g9) (gb2:=g10) (gb3:=g2) hr15) zRJ rfl rfl rfl (zd [12,11,10,9,15] [2,2,9,4,10,3,2] 0 rfl) ?_;rintro _ _ ⟨A71,c71,A72,c72,A73,c73,A74,c74,A75,c75,M10,A76,c76,A77,c77,rfl,rfl⟩;refine .nm 20 rfl<|.bf [1,5,6,7,9,10,18] [0,0,0,0,0,0,0,0,0,0,0,0,0] 5 rfl rfl<|.ab [1,5,6,7,9,10,102] rfl<|.cb h1 rfl (fun h1=>?_) (fun h1=>?_)
   ·refine .abf [4] [] 14 rfl rfl ?_;cases h1;cases hd1 _ rfl
    have h:some _=some _:=h;cases h;exact .rv rfl rfl ⟨rfl,rfl⟩ (zl [] 1 rfl)
   refine .skip<|.blkN<|.thenN<|.pr [1,5,6,7,9,10] rfl<|.region ?_;cases h1;exact .be rfl<|.ag (A76,c76,A77,c77,g9,g10,A71,c71,A72,c72,A73,c73,A74,c74,A75,c75,M10,A70,c70) hm1 rfl (zl [11,7,3,2,1,0,1,4,3,1,0,2,1] 0 rfl)
  refine .xq rfl ?_;cases h1;cases hd1 _ rfl
  exact .thenN<|.hereI (s1.1,(s1.2.1.1,s1.2.1.2),s1.2.2.2.1,s1.2.2.2.2) (A32,c32,A33,c33,g5,g6,A34,c34,A35,c35,A36,c36,A37,c37,A38,c38,M4,A39,c39) rfl (zb rfl) (zl [1,1,1,1,1,1,1,1,1,1] 3 rfl)
 rintro o3 ⟨A40,c40,A41,c41,g7,g8,A42,c42,A43,c43,A44,c44,A45,c45,A46,c46,M5,A47,c47⟩ ho;subst ho;have h:=unR h;refine .a 1 rfl<|.bd h fun r16 hr16 h=>.cq 12 [6,5,4,3] [9,5] 0 (tC (gb1:=g7) hr16) zJS rfl<|.bf [4] [] 11 rfl rfl ?_;cases h;exact .rv rfl rfl ⟨rfl,rfl⟩ (zl [] 1 rfl)
end Go.Proofs.YtplchdlgdjcojaaGreatDoor
end
section
namespace Go.Proofs.YtplchdlgdjcojaaGreatDoor
open Go
set_option linter.unusedSimpArgs false
set_option linter.unusedVariables false
def rng (l:List Int):Prop:=∀ x∈l,0≤x∧x≤255
theorem rng.nil:rng []:=fun x h=>by cases h
theorem rng.app {l m:List Int} (h:rng l) (k:rng m):rng (l++m):=fun x hx=>by
  rcases List.mem_append.1 hx with hx | hx
  · exact h x hx
  · exact k x hx
theorem rng.cons {x:Int} {l:List Int} (h:0≤x∧x≤255) (k:rng l):rng (x::l):=fun y hy=>by
  rcases List.mem_cons.1 hy with rfl | hy
  · exact h
  · exact k y hy
theorem rng.sub {l m:List Int} (h:rng l) (k:∀ x∈m,x∈l):rng m:=fun x hx=>h x (k x hx)
theorem rng.take {l:List Int} (h:rng l) (n:Nat):rng (l.take n):=h.sub fun _ hx=>List.mem_of_mem_take hx
theorem rng.drop {l:List Int} (h:rng l) (n:Nat):rng (l.drop n):=h.sub fun _ hx=>List.mem_of_mem_drop hx
theorem rng.set {l:List Int} (h:rng l) (n:Nat) {v:Int} (hv:0≤v∧v≤255):rng (l.set n v):=fun x hx=>by
  rcases List.mem_or_eq_of_mem_set hx with hx | hx
  · exact h x hx
  · subst hx; exact hv
theorem rng.get {l:List Int} (h:rng l) (i:Nat):0≤l.getD i 0∧l.getD i 0≤255:=by
  rw [List.getD_eq_getElem?_getD]
  cases hi:l[i]? with
  | none=>exact ⟨Int.le_refl 0,by decide⟩
  | some x=>exact h x (List.mem_of_getElem? hi)
theorem rng.rep {n:Nat} {v:Int} (hv:0≤v∧v≤255):rng (List.replicate n v):=fun x hx=>by
  obtain ⟨_,rfl⟩:=List.mem_replicate.1 hx
  exact hv
theorem sI {x:Int} (h:0≤x∧x≤255):∃ n:Nat,n<256∧x=(n:Int):=⟨x.toNat,by omega,by omega⟩
theorem zSB {x y:Int} (hx:0≤x∧x≤255) (hy:0≤y∧y≤255):0≤rN .u8 x y∧rN .u8 x y≤255:=by
  obtain ⟨a,ha,rfl⟩:=sI hx
  obtain ⟨b,hb,rfl⟩:=sI hy
  rw [zIW ha hb]
  have:=Nat.and_lt_two_pow (n:=8) a (y:=b) hb
  omega
theorem zQH {x y:Int} (hx:0≤x∧x≤255) (hy:0≤y∧y≤255):0≤iOr .u8 x y∧iOr .u8 x y≤255:=by
  obtain ⟨a,ha,rfl⟩:=sI hx
  obtain ⟨b,hb,rfl⟩:=sI hy
  rw [zDs ha hb]
  have:=Nat.or_lt_two_pow (n:=8) ha hb
  omega
theorem zQP {x:Int} (hx:0≤x∧x≤255):rN .u8 255 x=x:=by
  obtain ⟨a,ha,rfl⟩:=sI hx
  have:(255:Int)=((255:Nat):Int):=rfl
  rw [this,zIW (by decide) ha,Nat.and_comm]
  have e:a&&&255=a % 2 ^ 8:=Nat.and_two_pow_sub_one_eq_mod a 8
  rw [e]
  omega
theorem zXC {x:Int} (hx:0≤x∧x≤255):iOr .u8 x 255=255:=by
  obtain ⟨a,ha,rfl⟩:=sI hx
  have:(255:Int)=((255:Nat):Int):=rfl
  rw [this,zDs ha (by decide)]
  have h:∀ a:Fin 256,a.val|||255=255:=by decide+kernel
  rw [h ⟨a,ha⟩]
theorem or_zero {x y:Int} (hx:0≤x∧x≤255) (hy:0≤y∧y≤255):iOr .u8 x y=0↔x=0∧y=0:=by
  obtain ⟨a,ha,rfl⟩:=sI hx
  obtain ⟨b,hb,rfl⟩:=sI hy
  rw [zDs ha hb]
  have:=@Nat.or_eq_zero_iff a b
  omega
theorem zWh {x:Int} (hx:0≤x∧x≤255):iOr .u8 x 0=x:=by
  obtain ⟨a,ha,rfl⟩:=sI hx
  have:(0:Int)=((0:Nat):Int):=rfl
  rw [this,zDs ha (by decide),Nat.or_zero]
structure OkD (d:zA):Prop where
  size:64≤d.size∧d.size≤1024
  wear:1≤d.wear.length∧d.wear.length≤16
  len:(d.bytes.length:Int)=d.wear.length*d.size
  rng:rng d.bytes
  torn:0≤d.torn∧d.torn≤255
  left:0≤d.left∧d.left≤9223372036854775807
theorem OkD.bound {d:zA} (h:OkD d):d.bytes.length≤16384:=by
  have h1:=h.len
  have h2:=h.size
  have h3:=h.wear
  have:(d.wear.length:Int)*d.size≤16*1024:=Int.mul_le_mul (by omega) (by omega) (by omega) (by omega)
  omega
def xO (d:zA):zA × Bool:=
  if 0<d.left then (⟨d.size,d.bytes,d.wear,IntKind.wrap .i64 (d.steps+1),d.left - 1,d.torn,d.left - 1==0⟩,d.left - 1==0)
  else (⟨d.size,d.bytes,d.wear,IntKind.wrap .i64 (d.steps+1),d.left,d.torn,d.down⟩,d.down)
theorem zOp {d:zA} (h:OkD d):vD d=some (xO d):=by
  unfold vD xO
  by_cases hl:0<d.left
  · rw [xK (by simpa using hl),if_pos hl,yQ (x:=d.left - 1) (by have:=h.left; omega) (by have:=h.left; omega)]
  · rw [yT (by simpa using hl),if_neg hl]
theorem vF (d:zA):(xO d).1.bytes=d.bytes:=by unfold xO; split <;> rfl
theorem kQ (d:zA):(xO d).1.size=d.size:=by unfold xO; split <;> rfl
theorem fB (d:zA):(xO d).1.wear=d.wear:=by unfold xO; split <;> rfl
theorem oL (d:zA):(xO d).1.torn=d.torn:=by unfold xO; split <;> rfl
theorem zBv {d:zA} (h:d.down=false):(xO d).1.down=(xO d).2:=by unfold xO; split <;> rfl
theorem dR {d:zA} (h:OkD d):OkD (xO d).1:=by
  refine ⟨by rw [kQ]; exact h.size,by rw [fB]; exact h.wear,by rw [vF,fB,kQ]; exact h.len,by rw [vF]; exact h.rng,by rw [oL]; exact h.torn,?_⟩
  have:=h.left
  unfold xO
  split <;> simp only <;> omega
def wrB (d:zA) (i:Nat) (v:Int):zA:=⟨d.size,d.bytes.set i v,d.wear,d.steps,d.left,d.torn,d.down⟩
theorem zIF {d:zA} (h:OkD d) (i:Nat) {v:Int} (hv:0≤v∧v≤255):OkD (wrB d i v):=
  ⟨h.size,h.wear,by show ((d.bytes.set i v).length:Int)=_; rw [List.length_set]; exact h.len,h.rng.set i hv,h.torn,h.left⟩
def pJ:zA→Nat→List Int→zA × Int
  | d,_, []=>(d,0)
  | d,i,x::b=>
    if (xO d).2 then (wrB (xO d).1 i (rN .u8 (d.bytes.getD i 0) (iOr .u8 x d.torn)),10)
    else pJ (wrB (xO d).1 i (rN .u8 (d.bytes.getD i 0) x)) (i+1) b
theorem zKI:∀ (b:List Int) (d:zA) (i:Nat),OkD d→rng b→OkD (pJ d i b).1∧(pJ d i b).1.size=d.size∧(pJ d i b).1.wear=d.wear∧(pJ d i b).1.bytes.length=d.bytes.length∧(pJ d i b).1.torn=d.torn
  | [],d,i,h,_=>⟨h,rfl,rfl,rfl,rfl⟩
  | x::b,d,i,h,hb=>by
    have hx:=hb x (by simp)
    unfold pJ
    split
    · exact ⟨zIF (dR h) i (zSB (h.rng.get i) (zQH hx h.torn)),kQ d,fB d,by simp [wrB,vF],oL d⟩
    · obtain ⟨h1, h2, h3, h4, h5⟩ := zKI b (wrB (xO d).1 i (rN .u8 (d.bytes.getD i 0) x)) (i + 1) (zIF (dR h) i (zSB (h.rng.get i) hx)) (fun y hy => hb y (by simp [hy]))
      exact ⟨h1,h2.trans (kQ d),h3.trans (fB d),by rw [h4]; simp [wrB,vF],h5.trans (oL d)⟩
theorem zAa {l:List Int} {i:Nat} (h:i<l.length):elt l (i:Int)=some (l.getD i 0):=by
  rw [elt_nat,List.getD_eq_getElem?_getD,List.getElem?_eq_getElem h]
  rfl
theorem oM {α:Type} {l:List α} {i:Nat} (h:i<l.length) (v:α):sW l (i:Int) v=some (l.set i v):=by
  unfold sW
  rw [if_pos ⟨by omega,by omega⟩]
  simp
theorem zHT {d:zA} (h:OkD d) (at_ n:Int) (ha1: -4611686018427387904≤at_):uO d at_ n=some (decide (0≤at_∧at_≤d.bytes.length∧0≤n∧n≤d.bytes.length - at_)):=by
  have hb:=h.bound
  unfold uO
  by_cases h1:at_≥0
  · rw [xK (by simpa using h1)]
    by_cases h2:at_≤(d.bytes.length:Int)
    · rw [xK (by simpa using h2)]
      by_cases h3:n≥0
      · rw [xK (by simpa using h3), bnd_some, yQ (by omega) (by omega)]
        congr 1
        rw [decide_eq_decide]
        omega
      · rw [yT (by simpa using h3), bnd_some]
        congr 1
        symm
        rw [decide_eq_false_iff_not]
        omega
    · rw [yT (by simpa using h2), bnd_some]
      congr 1
      symm
      rw [decide_eq_false_iff_not]
      omega
  · rw [yT (by simpa using h1), bnd_some]
    congr 1
    symm
    rw [decide_eq_false_iff_not]
    omega
noncomputable def zAe (at_p1:Int) (b_p2:List Int):zA × Int→Option (sX (zA × Int) ((zA × Int) ⊕ zA)):=
  (fun (s1:zA × Int)=>bif decide (s1.2<(b_p2.length:Int)) then (bnd (elt b_p2 s1.2) fun x1=>bnd (vD s1.1) fun r2=>bif r2.2 then (bnd (elt r2.1.bytes (IntKind.wrap .i64 (at_p1+s1.2))) fun x2=>bnd (elt r2.1.bytes (IntKind.wrap .i64 (at_p1+s1.2))) fun x3=>bnd (elt r2.1.bytes (IntKind.wrap .i64 (at_p1+s1.2))) fun x4=>bnd (sW r2.1.bytes (IntKind.wrap .i64 (at_p1+s1.2)) (rN .u8 x3 (iOr .u8 x1 r2.1.torn))) fun l1=>some (.done (.inl ((⟨r2.1.size,l1,r2.1.wear,r2.1.steps,r2.1.left,r2.1.torn,r2.1.down⟩:zA),10)))) else (bnd (elt r2.1.bytes (IntKind.wrap .i64 (at_p1+s1.2))) fun x5=>bnd (sW r2.1.bytes (IntKind.wrap .i64 (at_p1+s1.2)) (rN .u8 x5 x1)) fun l2=>some (.next ((⟨r2.1.size,l2,r2.1.wear,r2.1.steps,r2.1.left,r2.1.torn,r2.1.down⟩:zA),IntKind.wrap .i64 (s1.2+1))))) else (some (.done (.inr s1.1))))
def zEw (r:zA × Int):(zA × Int) ⊕ zA:=if r.2=0 then .inr r.1 else .inl r
theorem zGZ (at_:Nat) (b:List Int) (hr:rng b):∀ (rest:List Int) (j:Nat) (d:zA),OkD d→b.drop j=rest→j+rest.length=b.length→at_+b.length≤d.bytes.length→
    yE (zAe (at_:Int) b) (d,(j:Int))=some (zEw (pJ d (at_+j) rest))
  | [],j,d,hd,h1,h2,h3=>by
    refine xR ?_
    unfold zAe
    simp only [List.length_nil] at h2
    rw [yT (by simp; omega)]
    rfl
  | x::rest,j,d,hd,h1,h2,h3=>by
    have hb:=hd.bound
    simp only [List.length_cons] at h2
    have hj:j<b.length:=by omega
    have hx:b[j]=x:=by
      have:=List.getElem_cons_drop (h:=hj)
      rw [h1] at this
      exact (List.cons.inj this).1
    have hrest:b.drop (j+1)=rest:=by
      have:=List.getElem_cons_drop (h:=hj)
      rw [h1] at this
      exact (List.cons.inj this).2
    have hxr:=hr x (by rw [←hx]; exact List.getElem_mem hj)
    have hi:at_+j<(xO d).1.bytes.length:=by rw [vF]; omega
    have hw:IntKind.wrap .i64 ((at_:Int)+(j:Int))=((at_+j:Nat):Int):=by rw [yQ (by omega) (by omega)]; omega
    have hstep:zAe (at_:Int) b (d,(j:Int))=some (if (xO d).2 then .done (.inl (wrB (xO d).1 (at_+j) (rN .u8 (d.bytes.getD (at_+j) 0) (iOr .u8 x d.torn)),10)) else .next (wrB (xO d).1 (at_+j) (rN .u8 (d.bytes.getD (at_+j) 0) x),((j+1:Nat):Int))):=by
      unfold zAe
      simp only
      rw [xK (by simp; omega),yV hj,bnd_some,hx,zOp hd,bnd_some]
      cases hf:(xO d).2
      · rw [cond_false, hw, zAa hi, bnd_some, oM hi, bnd_some, zR hj (by omega), vF, if_neg (by decide)]
        simp only [wrB,vF]
      · rw [cond_true, hw, zAa hi, bnd_some, bnd_some, bnd_some, oM hi, bnd_some, vF, oL, if_pos rfl]
        simp only [wrB,vF,oL]
    cases hf:(xO d).2
    · rw [hf] at hstep
      refine tK hstep ?_
      have:=zGZ at_ b hr rest (j+1) (wrB (xO d).1 (at_+j) (rN .u8 (d.bytes.getD (at_+j) 0) x)) (zIF (dR hd) _ (zSB (hd.rng.get _) hxr)) hrest (by omega) (by simp [wrB,vF]; omega)
      rw [this]
      conv=>rhs; unfold pJ
      rw [if_neg (by rw [hf]; decide)]
      rfl
    · rw [hf] at hstep
      rw [xR hstep]
      conv=>rhs; unfold pJ
      rw [if_pos hf]
      simp only [zEw]
      rw [if_neg (by decide)]
theorem zCU:∀ (b:List Int) (d:zA) (i:Nat),(pJ d i b).2=0∨(pJ d i b).2=10
  | [],d,i=>.inl rfl
  | x::b,d,i=>by
    unfold pJ
    split
    · exact .inr rfl
    · exact zCU b _ _
theorem zKm (r:zA × Int) (h:r.2=0∨r.2=10):(wS (zEw r) fun o2=>some (o2,0))=some r:=by
  unfold zEw
  rcases h with h | h
  · rw [if_pos h,retOr_inr,←h]
  · rw [if_neg (by rw [h]; decide),retOr_inl]
def zZ (d:zA) (at_:Int) (b:List Int):zA × Int:=
  if d.down then (d,10) else if 0≤at_∧at_≤d.bytes.length∧0≤(b.length:Int)∧(b.length:Int)≤d.bytes.length - at_ then pJ d at_.toNat b else (d,2)
theorem cQ {d:zA} (h:OkD d) {b:List Int} (hb:rng b) (at_:Int) (ha1: -4611686018427387904≤at_):wL d at_ b=some (zZ d at_ b):=by
  unfold wL zZ
  cases hd:d.down
  · rw [cond_false, zHT h at_ _ ha1, bnd_some]
    by_cases hw:0≤at_∧at_≤d.bytes.length∧0≤(b.length:Int)∧(b.length:Int)≤d.bytes.length - at_
    · rw [if_neg (by simp), if_pos hw, yT (by simp only [hw, decide_true]; rfl)]
      have:=zGZ at_.toNat b hb b 0 d h rfl (by omega) (by omega)
      have e:((at_.toNat:Nat):Int)=at_:=by omega
      rw [e] at this
      unfold zAe at this
      exact yA this (zKm _ (zCU b d _))
    · rw [if_neg (by simp),if_neg hw,xK (by rw [decide_eq_false hw]; rfl)]
  · rw [cond_true,if_pos rfl]
theorem zJL {d:zA} (h:OkD d) {b:List Int} (hb:rng b) (at_:Int):OkD (zZ d at_ b).1∧(zZ d at_ b).1.size=d.size∧(zZ d at_ b).1.wear=d.wear∧(zZ d at_ b).1.bytes.length=d.bytes.length∧(zZ d at_ b).1.torn=d.torn:=by
  unfold zZ
  split
  · exact ⟨h,rfl,rfl,rfl,rfl⟩
  · split
    · exact zKI b d _ h hb
    · exact ⟨h,rfl,rfl,rfl,rfl⟩
theorem lV {b:List Int} (h:b.length≤1000000):zQ b=some b:=by
  unfold zQ
  rw [uT (by simp; omega) (by simp; omega),bnd_some]
  rfl
def zNJ (d:zA) (at_ n:Int):List Int × Int:=
  if d.down then ([],10) else if 0≤at_∧at_≤d.bytes.length∧0≤n∧n≤d.bytes.length - at_ then ((d.bytes.drop at_.toNat).take n.toNat,0) else ([],2)
theorem zNC {d:zA} (h:OkD d) (at_ n:Int) (ha1: -4611686018427387904≤at_):uH d at_ n=some (d,zNJ d at_ n):=by
  have hb:=h.bound
  unfold uH zNJ
  cases hd:d.down
  · rw [cond_false, zHT h at_ _ ha1, bnd_some]
    by_cases hw:0≤at_∧at_≤d.bytes.length∧0≤n∧n≤d.bytes.length - at_
    · rw [if_neg (by simp), if_pos hw, yT (by simp only [hw, decide_true]; rfl), yQ (by omega) (by omega)]
      obtain ⟨a,rfl⟩:∃ a:Nat,at_=(a:Int):=⟨at_.toNat,by omega⟩
      obtain ⟨k,rfl⟩:∃ k:Nat,n=(k:Int):=⟨n.toNat,by omega⟩
      have h1:mT d.bytes.length (a:Int) ((a:Int)+(k:Int))=some k:=by
        unfold mT
        rw [if_pos ⟨by omega,by omega,by omega⟩]
        congr 1
        omega
      have h2:Go.Proofs.YtplchdlgdjcojaaGreatDoor.sub d.bytes (((a:Int).toNat:Nat):Int) (((a:Int).toNat+k:Nat):Int)=some ((d.bytes.take (a+k)).drop a):=by
        unfold Go.Proofs.YtplchdlgdjcojaaGreatDoor.sub
        rw [if_pos ⟨by omega,by omega,by omega⟩]
        congr 2
      rw [h1,bnd_some,h2,bnd_some,lV (by simp; omega),bnd_some]
      congr 3
      rw [List.take_drop,show (a:Int).toNat+(k:Int).toNat=a+k by omega]
      rfl
    · rw [if_neg (by simp),if_neg hw,xK (by rw [decide_eq_false hw]; rfl)]
  · rw [cond_true,if_pos rfl]
def orP (l:List Int) (lo n:Nat) (v:Int):List Int:=l.take lo++((l.drop lo).take n).map (fun x=>iOr .u8 x v)++l.drop (lo+n)
theorem zNA (l:List Int) (lo n:Nat) (v:Int) (h:lo+n≤l.length):(orP l lo n v).length=l.length:=by
  simp only [orP,List.length_append,List.length_take,List.length_map,List.length_drop]
  omega
theorem zTV {l:List Int} (h:rng l) (lo n:Nat) {v:Int} (hv:0≤v∧v≤255):rng (orP l lo n v):=by
  refine ((h.take lo).app fun x hx=>?_).app (h.drop _)
  obtain ⟨y,hy,rfl⟩:=List.mem_map.1 hx
  exact zQH (((h.drop lo).take n) y hy) hv
theorem zQu (l:List Int) (lo:Nat) (v:Int):orP l lo 0 v=l:=by simp [orP]
theorem zRL {l:List Int} {lo n:Nat} (v:Int) (h:lo+n<l.length):(orP l lo n v).set (lo+n) (iOr .u8 (l.getD (lo+n) 0) v)=orP l lo (n+1) v:=by
  unfold orP
  have h1:(l.take lo++((l.drop lo).take n).map (fun x=>iOr .u8 x v)).length=lo+n:=by
    simp only [List.length_append,List.length_take,List.length_map,List.length_drop]; omega
  have h2:l.drop (lo+n)=l[lo+n]::l.drop (lo+(n+1)):=(List.getElem_cons_drop (h:=h)).symm
  have h3:(l.drop lo).take (n+1)=(l.drop lo).take n++ [l[lo+n]]:=by
    rw [xB (by simp; omega)]
    simp
  rw [List.set_append_right _ _ (by omega),h1,Nat.sub_self,h2,List.set_cons_zero,h3,List.map_append,List.getD_eq_getElem?_getD,List.getElem?_eq_getElem h]
  simp
theorem zTJ {l:List Int} {lo n:Nat} (v:Int) (h:lo+n<l.length):(orP l lo n v).getD (lo+n) 0=l.getD (lo+n) 0:=by
  unfold orP
  have h1:(l.take lo++((l.drop lo).take n).map (fun x=>iOr .u8 x v)).length=lo+n:=by
    simp only [List.length_append,List.length_take,List.length_map,List.length_drop]; omega
  rw [List.getD_eq_getElem?_getD,List.getD_eq_getElem?_getD,List.getElem?_append_right (by omega),h1,Nat.sub_self,List.getElem?_drop]
  simp
def wrW (d:zA) (i:Nat):zA:=⟨d.size,d.bytes,d.wear.set i (IntKind.wrap .i64 (d.wear.getD i 0+1)),d.steps,d.left,d.torn,d.down⟩
def wrA (d:zA) (b:List Int):zA:=⟨d.size,b,d.wear,d.steps,d.left,d.torn,d.down⟩
def tS (d:zA) (s:Int):zA × Int:=
  if d.down then (d,10) else if s<0∨s≥d.wear.length then (d,2) else
    (wrA (xO (wrW d s.toNat)).1 (orP d.bytes (s.toNat*d.size.toNat) d.size.toNat (if (xO (wrW d s.toNat)).2 then d.torn else 255)),if (xO (wrW d s.toNat)).2 then 10 else 0)
theorem zLX {d:zA} (h:OkD d) (i:Nat):OkD (wrW d i):=
  ⟨h.size,by show 1≤(d.wear.set _ _).length∧(d.wear.set _ _).length≤16; rw [List.length_set]; exact h.wear,by show (d.bytes.length:Int)=((d.wear.set _ _).length:Int)*_; rw [List.length_set]; exact h.len,h.rng,h.torn,h.left⟩
theorem zUX {d:zA} (h:OkD d) {b:List Int} (hl:b.length=d.bytes.length) (hr:rng b):OkD (wrA d b):=
  ⟨h.size,h.wear,by show (b.length:Int)=_; rw [hl]; exact h.len,hr,h.torn,h.left⟩
theorem tP {d:zA} (h:OkD d) {k:Nat} (hk:k<d.wear.length):k*d.size.toNat+d.size.toNat≤d.bytes.length:=by
  have h1:=h.len
  have h2:=h.size
  obtain ⟨z,hz⟩:∃ z:Nat,d.size=(z:Int):=⟨d.size.toNat,by omega⟩
  rw [hz] at h1 ⊢
  have h3:d.bytes.length=d.wear.length*z:=by exact_mod_cast h1
  have h4:(k+1)*z≤d.wear.length*z:=Nat.mul_le_mul_right _ (by omega)
  rw [Nat.add_mul,Nat.one_mul] at h4
  show k*z+z≤_
  omega
theorem zSC {d:zA} (h:OkD d) (s:Int) (hs:s≤4611686018427387904):rP d s=some (tS d s):=by
  have hb:=h.bound
  unfold rP tS
  cases hd:d.down
  · rw [cond_false, if_neg (by simp)]
    by_cases hs0:s<0
    · rw [xK (by simpa using hs0),bnd_some,cond_true,if_pos (.inl hs0)]
    · rw [yT (by simpa using hs0), bnd_some]
      by_cases hs1:s≥d.wear.length
      · rw [xK (by simpa using hs1),if_pos (.inr hs1)]
      · rw [yT (by simpa using hs1), if_neg (by omega)]
        obtain ⟨k,rfl⟩:∃ k:Nat,s=(k:Int):=⟨s.toNat,by omega⟩
        have hk:k<d.wear.length:=by omega
        have hk16:=h.wear
        have hok:=dR (zLX h k)
        have hst:vD (⟨d.size,d.bytes,d.wear.set k (IntKind.wrap .i64 (d.wear.getD k 0+1)),d.steps,d.left,d.torn,false⟩:zA)=some (xO (wrW d k)):=by rw [←zOp (zLX h k)]; simp only [wrW,hd]
        rw [zAa hk,bnd_some,oM hk,bnd_some,hst,bnd_some]
        have hz:=h.size
        obtain ⟨z,hzz⟩:∃ z:Nat,d.size=(z:Int):=⟨d.size.toNat,by omega⟩
        have hsz:(xO (wrW d k)).1.size=(z:Int):=(kQ _).trans hzz
        have hby:(xO (wrW d k)).1.bytes=d.bytes:=vF _
        have hse:=tP h hk
        rw [hzz] at hse
        have hkz:k*z≤16384:=by
          have:((z:Int)).toNat=z:=rfl
          rw [this] at hse
          omega
        have hse':k*z+z≤d.bytes.length:=hse
        have e1:IntKind.wrap .i64 ((k:Int)*(z:Int))=((k*z:Nat):Int):=by
          have:(k:Int)*(z:Int)=((k*z:Nat):Int):=by simp
          rw [this,yZ (by omega)]
        have e2:IntKind.wrap .i64 (IntKind.wrap .i64 ((k:Int)+1)*(z:Int))=((k*z+z:Nat):Int):=by
          rw [yQ (x:=(k:Int)+1) (by omega) (by omega)]
          have:((k:Int)+1)*(z:Int)=((k*z+z:Nat):Int):=by simp [Int.add_mul]
          rw [this,yZ (by omega)]
        simp only [hsz,hby,e1,e2]
        have hpm:mT d.bytes.length ((k*z:Nat):Int) ((k*z+z:Nat):Int)=some z:=by
          unfold mT
          rw [if_pos ⟨by omega,by omega,by omega⟩]
          congr 1
          omega
        have ho:(bif (xO (wrW d k)).2 then some (xO (wrW d k)).1.torn else some 255)=some (if (xO (wrW d k)).2 then d.torn else 255):=by
          rw [oL]
          cases (xO (wrW d k)).2 <;> rfl
        rw [ho,bnd_some,hpm,bnd_some]
        generalize hv:(if (xO (wrW d k)).2=true then d.torn else 255)=v
        have hvr:0≤v∧v≤255:=by rw [←hv]; split; exact h.torn; decide
        have e3:(((k*z:Nat):Int)).toNat=k*z:=rfl
        rw [e3]
        refine xT (fun j=>(wrA (xO (wrW d k)).1 (orP d.bytes (k*z) j v),(j:Int))) z (wrA (xO (wrW d k)).1 (orP d.bytes (k*z) z v)) ?_ (fun j hj=>?_) ?_ ?_
        · rw [zQu,←hby]; rfl
        · have hlt : k * z + j < d.bytes.length := by omega
          have hlt2:k*z+j<(orP d.bytes (k*z) j v).length:=by rw [zNA _ _ _ _ (by omega)]; exact hlt
          have hel:zIM (orP d.bytes (k*z) j v) (k*z) z (j:Int)=some (d.bytes.getD (k*z+j) 0):=by
            unfold zIM
            rw [if_pos ⟨by omega,by omega⟩]
            have:((k*z:Nat):Int)+(j:Int)=((k*z+j:Nat):Int):=by omega
            rw [this,zAa hlt2,zTJ v hlt]
          have hse2:sW (orP d.bytes (k*z) j v) (((k*z:Nat):Int)+(j:Int)) (iOr .u8 (d.bytes.getD (k*z+j) 0) v)=some (orP d.bytes (k*z) (j+1) v):=by
            have:((k*z:Nat):Int)+(j:Int)=((k*z+j:Nat):Int):=by omega
            rw [this,oM hlt2,zRL v hlt]
          simp only [wrA]
          rw [xK (by simp; omega),hel,bnd_some,bnd_some,hse2,bnd_some,zR hj (by omega)]
        · simp only
          rw [yT (by simp)]
        · have e4 : ((z : Int)).toNat = z := rfl
          have e5:((k:Int)).toNat=k:=rfl
          rw [hzz]
          simp only [e4,e5]
          cases hf:(xO (wrW d k)).2
          · rw [hf] at hv
            rw [cond_false,←hv]
            rfl
          · rw [hf] at hv
            rw [cond_true,←hv]
            rfl
  · rw [cond_true,if_pos rfl]
theorem zId {d:zA} (h:OkD d) (s:Int):OkD (tS d s).1∧(tS d s).1.size=d.size∧(tS d s).1.wear.length=d.wear.length∧(tS d s).1.bytes.length=d.bytes.length∧(tS d s).1.torn=d.torn:=by
  unfold tS
  split
  · exact ⟨h,rfl,rfl,rfl,rfl⟩
  · split
    · exact ⟨h,rfl,rfl,rfl,rfl⟩
    · rename_i hs
      have hk:s.toNat<d.wear.length:=by omega
      have hse:=tP h hk
      have hl:=zNA d.bytes (s.toNat*d.size.toNat) d.size.toNat (if (xO (wrW d s.toNat)).2 then d.torn else 255) hse
      have hvr:0≤(if (xO (wrW d s.toNat)).2 then d.torn else 255)∧(if (xO (wrW d s.toNat)).2 then d.torn else 255)≤255:=by split; exact h.torn; decide
      refine ⟨zUX (dR (zLX h _)) ?_ (zTV h.rng _ _ hvr),kQ _,?_,hl,oL _⟩
      · rw [vF]; exact hl
      · show (xO (wrW d s.toNat)).1.wear.length = _
        rw [fB]
        simp [wrW]
def zFZ (d:zA):zA:=⟨d.size,d.bytes,d.wear,d.steps,0,d.torn,false⟩
end Go.Proofs.YtplchdlgdjcojaaGreatDoor
end
section
namespace Go.Proofs.YtplchdlgdjcojaaGreatDoor
open Go
set_option linter.unusedVariables false
set_option linter.unusedSimpArgs false
def wA (n:Nat):Nat:=(n+63) / 64
def dl (b:List Int) (k:Nat):xA:=⟨(b.length:Int),64,List.replicate k true++List.replicate (wA b.length - k) false,b.take (64*k)++List.replicate (b.length - 64*k) 0⟩
def zAP (b:List Int) (k:Nat):List Int:=(b.take (min (64*k+64) b.length)).drop (64*k)
theorem cD (b:List Int) (k:Nat):(dl b k).Data.length=b.length:=by
  simp only [dl,List.length_append,List.length_take,List.length_replicate]; omega
theorem zJg (b:List Int) {k:Nat} (h:k≤wA b.length):(dl b k).Have.length=wA b.length:=by
  simp only [dl,List.length_append,List.length_replicate]; omega
theorem zKc {n:Nat} (h1:1≤n) (h2:n≤8192):vU (n:Int) 64=some true:=by
  unfold vU
  rw [decide_eq_true (by omega:(n:Int)≥1),cond_true,decide_eq_true (by omega:(n:Int)≤8192)]
  rfl
theorem zPW {n:Nat} (h:n=0∨8192<n):vU (n:Int) 64=some false:=by
  unfold vU
  rcases h with rfl | h
  · rfl
  · rw [decide_eq_true (by omega : (n : Int) ≥ 1), cond_true, decide_eq_false (by omega : ¬ (n : Int) ≤ 8192)]
    rfl
theorem zLc {n:Nat} (h2:n≤8192):sF (n:Int) 64=some (wA n:Int):=by
  unfold sF
  rw [show ((n:Int)+64)=((n+64:Nat):Int) by omega,yZ (by omega),show (((n+64:Nat):Int) - 1)=((n+63:Nat):Int) by omega,yZ (by omega)]
  unfold zPj
  rw [if_neg (by omega),bnd_some,show (64:Int)=((64:Nat):Int) from rfl,zQd,yZ (by omega)]
  rfl
theorem zQQ {b:List Int} (h1:1≤b.length) (h2:b.length≤8192):sK (b.length:Int) 64=some (dl b 0,0):=by
  unfold sK
  have hc:wA b.length≤200:=by unfold wA; omega
  rw [zKc h1 h2,bnd_some,Bool.not_true,cond_false,zLc h2,bnd_some]
  have e1:mkS 1 false (wA b.length:Int) (wA b.length:Int)=some (List.replicate (wA b.length) false):=by
    unfold mkS
    rw [if_pos ⟨by omega,by omega,by omega,by omega⟩]
    simp
  have e2:mkS 1 (0:Int) (b.length:Int) (b.length:Int)=some (List.replicate b.length 0):=by
    unfold mkS
    rw [if_pos ⟨by omega,by omega,by omega,by omega⟩]
    simp
  rw [e1,bnd_some,e2,bnd_some]
  simp [dl]
theorem zSW {n:Nat} (h:n=0∨8192<n):sK (n:Int) 64=some (⟨0,0, [], []⟩,2):=by
  unfold sK
  rw [zPW h,bnd_some]
  rfl
theorem zLs (D:xA) {n i:Nat} (hz:D.Size=(n:Int)) (hp:D.Part=64) (hl:D.Data.length=n) (h2:n≤8192) (hi:i<wA n):
    sH D (i:Int)=some ((D.Data.take (min (64*i+64) n)).drop (64*i)):=by
  unfold sH
  have hc:64*i<n:=by unfold wA at hi; omega
  rw [hp,hz,show ((i:Int)*64)=((64*i:Nat):Int) by omega,yZ (by omega),show (((64*i:Nat):Int)+64)=((64*i+64:Nat):Int) by omega,yZ (by omega)]
  have hm:min ((64*i+64:Nat):Int) (n:Int)=((min (64*i+64) n:Nat):Int):=by omega
  rw [hm]
  unfold sub
  rw [if_pos ⟨by omega,by omega,by omega⟩,bnd_some,Int.toNat_natCast,Int.toNat_natCast]
theorem zTn {l:List Int} (h:∀ x∈l,x=0) (hl:l.length≤1000000):xY l=some false:=by
  unfold xY vO
  refine yA (a:= -1) ?_ rfl
  refine xT (fun i=>(i:Int)) l.length (.inr ()) rfl (fun i hi=>?_) ?_ rfl
  · have hx := h _ (List.getElem_mem hi)
    rw [decide_eq_true (by omega:(i:Int)<(l.length:Int)),cond_true,yV hi,bnd_some,hx]
    unfold pC
    rw [bnd_some,zR hi (by omega)]
    rfl
  · rw [decide_eq_false (by omega : ¬ (l.length : Int) < (l.length : Int))]
    rfl
theorem zRN {b:List Int} {k i:Nat} (hk:k≤i):∀ x∈((dl b k).Data.take (min (64*i+64) b.length)).drop (64*i),x=0:=by
  intro x hx
  have hd:((dl b k).Data.take (min (64*i+64) b.length)).drop (64*i)=((List.replicate (b.length - 64*k) (0:Int)).take (min (64*i+64) b.length - (b.take (64*k)).length)).drop (64*i - ((b.take (64*k)).take (min (64*i+64) b.length)).length):=by
    simp only [dl]
    rw [List.take_append,List.drop_append,List.drop_eq_nil_of_le,List.nil_append]
    simp only [List.length_take]; omega
  rw [hd] at hx
  exact List.eq_of_mem_replicate (List.mem_of_mem_take (List.mem_of_mem_drop hx))
theorem zCG {b:List Int} {k i:Nat} (hk:k≤wA b.length) (hi:i<wA b.length):elt (dl b k).Have (i:Int)=some (decide (i<k)):=by
  rw [elt_nat]
  simp only [dl]
  by_cases h:i<k
  · rw [List.getElem?_append_left (by simpa using h),List.getElem?_replicate_of_lt h,decide_eq_true h]
  · rw [List.getElem?_append_right (by simpa using h),List.length_replicate,List.getElem?_replicate_of_lt (by omega),decide_eq_false h]
theorem zJl {b:List Int} {k:Nat} (h1:1≤b.length) (h2:b.length≤8192) (hk:k≤wA b.length):uU (dl b k)=some true:=by
  unfold uU
  have hc:wA b.length≤200:=by unfold wA; omega
  have hh:=zJg b hk
  refine yA (a:=false) ?_ ?_
  · show bnd (vU (b.length : Int) 64) _ = _
    rw [zKc h1 h2,bnd_some,Bool.not_true,cond_false]
    show bnd (sF (b.length:Int) 64) _=_
    rw [zLc h2,bnd_some,hh,cD]
    simp only [bne_self_eq_false,cond_false]
    show some ((b.length:Int) != (b.length:Int))=_
    simp
  rw [cond_false,hh]
  refine xT (fun i=>(i:Int)) (wA b.length) (.inr ()) rfl (fun i hi=>?_) ?_ rfl
  · rw [decide_eq_true (by omega : (i : Int) < (wA b.length : Int)), cond_true, zCG hk hi, bnd_some]
    refine yA (a:=false) ?_ ?_
    · by_cases h : i < k
      · rw [decide_eq_true h]; rfl
      · rw [decide_eq_false h,Bool.not_false,cond_true,zLs (dl b k) rfl rfl (cD b k) h2 hi,bnd_some,zTn (zRN (by omega)) (by rw [List.length_drop,List.length_take,cD]; omega),bnd_some]
    · rw [cond_false,zR hi (by omega)]
  · rw [decide_eq_false (by omega : ¬ (wA b.length : Int) < (wA b.length : Int))]
    rfl
theorem zMU {l:List Bool} (h:l.length≤1000000):wY l=some l:=by
  unfold wY
  rw [uT (by simp; omega) (by simp; omega),bnd_some]
  simp
theorem zNm {b:List Int} {k:Nat} (h:k<wA b.length):(zAP b k).length=min 64 (b.length - 64*k):=by
  unfold zAP wA at*
  simp only [List.length_drop,List.length_take]; omega
theorem zSz {b:List Int} {k:Nat} (hk:k<wA b.length):((dl b k).Have).set k true=(dl b (k+1)).Have:=by
  apply List.ext_getElem?
  intro j
  simp only [dl,List.getElem?_set,List.getElem?_append,List.getElem?_replicate,List.length_append,List.length_replicate]
  by_cases h1:k=j
  · subst h1
    simp; omega
  · by_cases h2 : j < k
    · simp [h1,h2,show j<k+1 by omega]
    · simp only [h1, h2, show ¬ j < k + 1 by omega, if_false]
      by_cases h3:j<wA b.length
      · rw [if_pos (by omega),if_pos (by omega)]
      · rw [if_neg (by omega),if_neg (by omega)]
theorem zSr {b:List Int} {k:Nat} (hk:k<wA b.length):(dl b k).Data.take (64*k)++(zAP b k).take (min (zAP b k).length (min 64 (b.length - 64*k)))++(dl b k).Data.drop (64*k+min (zAP b k).length (min 64 (b.length - 64*k)))=(dl b (k+1)).Data:=by
  have hl:=zNm hk
  have hc:64*k<b.length:=by unfold wA at hk; omega
  have hA:(b.take (64*k)).length=64*k:=by rw [List.length_take]; omega
  have e1:(dl b k).Data.take (64*k)=b.take (64*k):=by
    simp only [dl]
    rw [List.take_append_of_le_length (by omega),List.take_take,Nat.min_self]
  have e2:(dl b k).Data.drop (64*k+min 64 (b.length - 64*k))=List.replicate (b.length - 64*(k+1)) 0:=by
    simp only [dl]
    rw [List.drop_append,List.drop_eq_nil_of_le (by omega),List.nil_append,hA,List.drop_replicate]
    congr 1
    omega
  have e3:(zAP b k).take (min 64 (b.length - 64*k))=zAP b k:=List.take_of_length_le (by omega)
  rw [hl,Nat.min_self,e1,e2,e3]
  have e4:b.take (64*k)++zAP b k=b.take (64*(k+1)):=by
    unfold zAP
    have h5:=List.take_append_drop (64*k) (b.take (min (64*k+64) b.length))
    rw [List.take_take,show min (64*k) (min (64*k+64) b.length)=64*k by omega] at h5
    rw [h5]
    by_cases h6:64*k+64≤b.length
    · rw [show min (64*k+64) b.length=64*(k+1) by omega]
    · rw [show min (64*k+64) b.length=b.length by omega,List.take_length,List.take_of_length_le (by omega)]
  rw [e4]
  rfl
theorem zTx {b:List Int} {k:Nat} (h1:1≤b.length) (h2:b.length≤8192) (hk:k<wA b.length):rI (dl b k) (k:Int) (zAP b k)=some (dl b (k+1),0):=by
  unfold rI
  have hc:wA b.length≤200:=by unfold wA; omega
  have h64:64*k<b.length:=by unfold wA at hk; omega
  have hh:=zJg b (Nat.le_of_lt hk)
  have hsl:=zNm hk
  rw [zJl h1 h2 (by omega),bnd_some,Bool.not_true,cond_false,decide_eq_false (by omega:¬ (k:Int)<0),cond_false,bnd_some,hh,decide_eq_false (by omega:¬ (k:Int)≥(wA b.length:Int)),cond_false]
  rw [zLs (dl b k) rfl rfl (cD b k) h2 hk,bnd_some]
  have hpl:(((dl b k).Data.take (min (64*k+64) b.length)).drop (64*k)).length=(zAP b k).length:=by
    rw [hsl,List.length_drop,List.length_take,cD]; omega
  rw [hpl,show (((zAP b k).length:Int) != ((zAP b k).length:Int))=false by simp,cond_false]
  refine yA (a:=false) ?_ ?_
  · rw [zCG (by omega) hk, bnd_some, decide_eq_false (by omega)]
    rfl
  rw [cond_false,zMU (by omega),bnd_some,lV (by rw [cD]; omega),bnd_some,zCG (by omega) hk,bnd_some]
  have hs:sW (dl b k).Have (k:Int) true=some ((dl b (k+1)).Have):=by
    rw [oM (by omega),zSz hk]
  rw [hs,bnd_some]
  have hp0:qE (⟨(dl b k).Size,(dl b k).Part,(dl b (k+1)).Have,(dl b k).Data⟩:xA) (k:Int)=some (64*k,min 64 (b.length - 64*k)):=by
    unfold qE
    simp only
    have e1:(dl b k).Part=64:=rfl
    have e2:(dl b k).Size=(b.length:Int):=rfl
    rw [e1,e2,cD,show ((k:Int)*64)=((64*k:Nat):Int) by omega,yZ (by omega),show (((64*k:Nat):Int)+64)=((64*k+64:Nat):Int) by omega,yZ (by omega)]
    unfold mT
    rw [if_pos ⟨by omega,by omega,by omega⟩,bnd_some]
    congr 2
    omega
  rw [hp0,bnd_some]
  have hcp:jO (dl b k).Data (64*k) (min 64 (b.length - 64*k)) (zAP b k)=some ((dl b (k+1)).Data):=by
    unfold jO
    rw [if_pos (by rw [cD]; omega)]
    have:=zSr hk
    rw [hsl,Nat.min_self] at this ⊢
    rw [this]
  simp only
  rw [hcp,bnd_some]
  rfl
theorem zQh {l:List Bool} {k m:Nat} (h:l=List.replicate k true++List.replicate m false) (hl:k+m≤1000000):vK l false=some (decide (0<m)):=by
  unfold vK rA
  have hlen:l.length=k+m:=by rw [h]; simp
  have hg:∀ i,i<k+m→elt l (i:Int)=some (decide (i<k)):=fun i hi=>by
    rw [elt_nat,h]
    by_cases hk:i<k
    · rw [List.getElem?_append_left (by simpa using hk),List.getElem?_replicate_of_lt hk,decide_eq_true hk]
    · rw [List.getElem?_append_right (by simpa using hk),List.length_replicate,List.getElem?_replicate_of_lt (by omega),decide_eq_false hk]
  by_cases hm:0<m
  · refine yA (a := (k : Int)) ?_ (by rw [decide_eq_true (by omega : (k : Int) ≥ 0), decide_eq_true hm])
    refine yA (a:=.inl (k:Int)) ?_ rfl
    refine pI (fun i=>(i:Int)) k (fun i hi=>?_) ?_
    · rw [hlen, decide_eq_true (by omega : (i : Int) < ((k + m : Nat) : Int)), cond_true, hg i (by omega), bnd_some, decide_eq_true hi, zR hi (by omega)]
      rfl
    · rw [hlen, decide_eq_true (by omega : (k : Int) < ((k + m : Nat) : Int)), cond_true, hg k (by omega), bnd_some, decide_eq_false (by omega)]
      rfl
  · refine yA (a := -1) ?_ (by rw [decide_eq_false (by omega : ¬ 0 < m)]; rfl)
    refine xT (fun i=>(i:Int)) (k+m) (.inr ()) rfl (fun i hi=>?_) ?_ rfl
    · rw [hlen, decide_eq_true (by omega : (i : Int) < ((k + m : Nat) : Int)), cond_true, hg i hi, bnd_some, decide_eq_true (by omega), zR hi (by omega)]
      rfl
    · rw [hlen, decide_eq_false (by omega : ¬ ((k + m : Nat) : Int) < ((k + m : Nat) : Int))]
      rfl
theorem zHK {b:List Int} {k:Nat} (h1:1≤b.length) (h2:b.length≤8192) (hk:k≤wA b.length):wP (dl b k)=some (decide (k=wA b.length)):=by
  unfold wP
  have hc:wA b.length≤200:=by unfold wA; omega
  rw [zJl h1 h2 hk,bnd_some,cond_true,zQh (l:=(dl b k).Have) (k:=k) (m:=wA b.length - k) rfl (by omega),bnd_some,bnd_some]
  congr 1
  by_cases h:k=wA b.length
  · rw [decide_eq_true h,decide_eq_false (by omega)]; rfl
  · rw [decide_eq_false h,decide_eq_true (by omega)]; rfl
theorem zTt (b:List Int):(dl b (wA b.length)).Data=b:=by
  simp only [dl]
  have:b.length≤64*wA b.length:=by unfold wA; omega
  rw [List.take_of_length_le this,show b.length - 64*wA b.length=0 by omega]
  simp
theorem zWB {b:List Int} (h1:1≤b.length) (h2:b.length≤8192):sG (dl b (wA b.length))=some (b,0):=by
  unfold sG
  rw [zJl h1 h2 (Nat.le_refl _),bnd_some,Bool.not_true,cond_false,zHK h1 h2 (Nat.le_refl _),bnd_some,decide_eq_true rfl,Bool.not_true,cond_false,lV (by rw [cD]; omega),bnd_some,zTt]
theorem zTq {b:List Int} (h1:1≤b.length) (h2:b.length≤8192) (m:Int):rH (dl b (wA b.length)) m=some []:=by
  unfold rH
  have hc:wA b.length≤200:=by unfold wA; omega
  rw [zJl h1 h2 (Nat.le_refl _),bnd_some,Bool.not_true,cond_false,zJg b (Nat.le_refl _)]
  refine xT (fun i=>([],(i:Int))) (wA b.length) [] rfl (fun i hi=>?_) ?_ rfl
  · simp only
    rw [decide_eq_true (by omega:(i:Int)<(wA b.length:Int)),cond_true,zCG (Nat.le_refl _) hi,bnd_some,decide_eq_true hi,Bool.not_true,cond_false,bnd_some,cond_false,zR hi (by omega)]
  · simp only
    rw [decide_eq_false (by omega:¬ (wA b.length:Int)<(wA b.length:Int))]
    rfl
end Go.Proofs.YtplchdlgdjcojaaGreatDoor
end
section
namespace Go.Proofs.YtplchdlgdjcojaaGreatDoor
open Go
set_option linter.unusedSimpArgs false
set_option linter.unusedVariables false
def itN {α:Type} (f:α→α):Nat→α→α
  | 0,x=>x
  | n+1,x=>f (itN f n x)
def kN (x:Int):Prop:=0≤x∧x≤4294967295
theorem cS (x:Int):kN (IntKind.wrap .u32 x):=by
  rw [kB]
  constructor <;> omega
theorem cY (x y:Int):kN (fL .u32 x y):=cS _
def zEH (c:Int):Int:=fL .u32 (uB .u32 c 1) (IntKind.wrap .u32 ((rN .u32 c 1)*3988292384))
def zLV (c x:Int):Int:=itN zEH 8 (fL .u32 c (IntKind.wrap .u32 x))
def zCV (l:List Int):Int:=l.foldl zLV 4294967295
theorem zNb (c:Int):kN (zEH c):=cY _ _
theorem zIb {c:Int} (h:kN c):∀ n,kN (itN zEH n c)
  | 0=>h
  | n+1=>zNb _
theorem zMj (c x:Int):kN (zLV c x):=zIb (cY _ _) 8
theorem zIu (l:List Int):kN (zCV l):=by
  unfold zCV
  have:∀ (l:List Int) (c:Int),kN c→kN (l.foldl zLV c):=by
    intro l
    induction l with
    | nil=>intro c h; exact h
    | cons x r ih=>intro c _; exact ih _ (zMj c x)
  exact this l _ ⟨by omega,by omega⟩
theorem eW {x:Int} (h:kN x):(BitVec.ofInt 32 x).toNat=x.toNat:=by
  rw [BitVec.toNat_ofInt]
  have:=h.1
  have:=h.2
  omega
theorem zLb {x:Int} (h:kN x):fL .u32 x 0=x:=by
  unfold fL
  have e:(BitVec.ofInt (IntKind.bits .u32) x ^^^ BitVec.ofInt (IntKind.bits .u32) 0).toNat=x.toNat:=by
    show (BitVec.ofInt 32 x ^^^ BitVec.ofInt 32 0).toNat=_
    rw [←eW h]
    simp
  rw [e,kB]
  have:=h.1
  have:=h.2
  omega
theorem zMW {x:Int} (h:kN x):rN .u32 x 1=x % 2:=by
  unfold rN
  have e:(BitVec.ofInt (IntKind.bits .u32) x&&&BitVec.ofInt (IntKind.bits .u32) 1).toNat=x.toNat % 2:=by
    show (BitVec.ofInt 32 x&&&BitVec.ofInt 32 1).toNat=_
    rw [BitVec.toNat_and,eW h]
    have:(BitVec.ofInt 32 1).toNat=1:=by decide
    rw [this,Nat.and_one_is_mod]
  rw [e,kB]
  have:=h.1
  have:=h.2
  omega
theorem zMr {x:Int} (h:kN x):uB .u32 x 1=x / 2:=by
  unfold uB
  have:(2:Int) ^ (min (Int.toNat 1) (IntKind.bits .u32))=2:=by decide
  rw [this,Int.fdiv_eq_ediv_of_nonneg _ (by omega)]
theorem zSy {c:Int} (h:kN c):zEH c=bif (c.tmod 2==1) then fL .u32 (IntKind.wrap .u32 (c.tdiv 2)) 3988292384 else IntKind.wrap .u32 (c.tdiv 2):=by
  unfold zEH
  have h0:=h.1
  have h1:=h.2
  have hd:IntKind.wrap .u32 (c.tdiv 2)=c / 2:=by
    rw [Int.tdiv_eq_ediv_of_nonneg h0,zKy (by omega) (by omega)]
  have hm:c.tmod 2=c % 2:=Int.tmod_eq_emod_of_nonneg h0
  rw [zMr h,zMW h,hd,hm]
  rcases Int.emod_two_eq c with h2 | h2
  · rw [h2]
    have:IntKind.wrap .u32 (0*3988292384)=0:=by rw [kB]; decide
    rw [this,zLb ⟨by omega,by omega⟩]
    rfl
  · rw [h2]
    have:IntKind.wrap .u32 (1*3988292384)=3988292384:=by rw [kB]; decide
    rw [this]
    rfl
theorem zTc {c:Int} (h:kN c):fL .u32 (if IntKind.signed .u32 then -1 else IntKind.max .u32) c=IntKind.wrap .u32 (4294967295 - c):=by
  have h0:=h.1
  have h1:=h.2
  have em:(if IntKind.signed .u32 then -1 else IntKind.max .u32:Int)=4294967295:=by decide
  rw [em]
  unfold fL
  have e:(BitVec.ofInt (IntKind.bits .u32) 4294967295 ^^^ BitVec.ofInt (IntKind.bits .u32) c).toNat=4294967295 - c.toNat:=by
    show (BitVec.ofInt 32 4294967295 ^^^ BitVec.ofInt 32 c).toNat=_
    have:BitVec.ofInt 32 4294967295=BitVec.allOnes 32:=by decide
    rw [this,←BitVec.not_def,BitVec.toNat_not,eW h]
  rw [e]
  congr 1
  omega
theorem zHL {α σ:Type} {m:σ × Int→Option (sX (σ × Int) σ)} (xs:List α) (f:σ→α→σ) (s0:σ) (hn:xs.length≤140737488355328) (I:σ→Prop) (hI:I s0) (hf:∀ s x,I s→I (f s x))
    (hs:∀ (i:Nat) (s:σ) (h:i<xs.length),I s→m (s,(i:Int))=some (.next (f s xs[i],((i+1:Nat):Int)))) (hd:∀ s,m (s,(xs.length:Int))=some (.done s)):yE m (s0,0)=some (xs.foldl f s0):=by
  have hI2:∀ n,I ((xs.take n).foldl f s0):=by
    intro n
    have:∀ (l:List α) (s:σ),I s→I (l.foldl f s):=by
      intro l
      induction l with
      | nil=>intro s h; exact h
      | cons x r ih=>intro s h; exact ih _ (hf s x h)
    exact this _ _ hI
  have:=pI (m:=m) (fun i=>((xs.take i).foldl f s0,(i:Int))) xs.length (t:=xs.foldl f s0) (fun i hi=>?_) (by simp only [List.take_length]; exact hd _)
  · simpa using this
  · rw [hs i _ hi (hI2 i), xB hi, List.foldl_append]
    rfl
theorem zEF (b:List Int) (hb:b.length≤140737488355328):wG b=some (IntKind.wrap .u32 (4294967295 - zCV b)):=by
  unfold wG
  rw [zHL b zLV 4294967295 hb (fun _=>True) trivial (fun _ _ _=>trivial) (fun i s hi _=>?_) (fun s=>by simp)]
  · simp only [bnd_some]
    exact congrArg some (zTc (zIu b))
  · have h1 : decide ((i : Int) < (b.length : Int)) = true := by simpa using hi
    simp only [h1,cond_true,yV hi,bnd_some]
    have:=pI (m:=fun (s2:Int × Int)=>bif decide (s2.2<8) then (some (.next (fL .u32 (uB .u32 s2.1 1) (IntKind.wrap .u32 ((rN .u32 s2.1 1)*3988292384)),IntKind.wrap .i64 (s2.2+1)))) else (some (.done s2.1))) (fun k=>(itN zEH k (fL .u32 s (IntKind.wrap .u32 b[i])),(k:Int))) 8 (t:=zLV s b[i]) (fun k hk=>by
      have:decide ((k:Int)<8)=true:=by simp; omega
      simp only [this,cond_true]
      rw [zR (n:=8) hk (by omega)]
      rfl) rfl
    simp only [itN,Int.ofNat_zero] at this
    rw [this]
    simp only [bnd_some]
    rw [zR hi hb]
theorem zNT (b:List Int) (hb:b.length≤140737488355328):pT b=some (IntKind.wrap .u32 (4294967295 - zCV b)):=by
  unfold pT
  rw [zHL b zLV 4294967295 hb (fun _=>True) trivial (fun _ _ _=>trivial) (fun i s hi _=>?_) (fun s=>by simp)]
  · rfl
  · have h1 : decide ((i : Int) < (b.length : Int)) = true := by simpa using hi
    simp only [h1,cond_true,yV hi,bnd_some]
    have:=pI (m:=fun (s2:Int × Int)=>bif decide (s2.2<8) then (bif ((s2.1.tmod 2)==1) then (some (.next (fL .u32 (IntKind.wrap .u32 (s2.1.tdiv 2)) 3988292384,IntKind.wrap .i64 (s2.2+1)))) else (some (.next (IntKind.wrap .u32 (s2.1.tdiv 2),IntKind.wrap .i64 (s2.2+1))))) else (some (.done s2.1))) (fun k=>(itN zEH k (fL .u32 s (IntKind.wrap .u32 b[i])),(k:Int))) 8 (t:=zLV s b[i]) (fun k hk=>by
      have h2:decide ((k:Int)<8)=true:=by simp; omega
      simp only [h2,cond_true]
      rw [zR (n:=8) hk (by omega)]
      have hr:kN (itN zEH k (fL .u32 s (IntKind.wrap .u32 b[i]))):=zIb (cY _ _) k
      show _=some (sX.next (zEH (itN zEH k (fL .u32 s (IntKind.wrap .u32 b[i]))),_))
      rw [zSy hr]
      cases ((itN zEH k (fL .u32 s (IntKind.wrap .u32 b[i]))).tmod 2==1) <;> rfl) rfl
    simp only [itN,Int.ofNat_zero] at this
    rw [this]
    simp only [bnd_some]
    rw [zR hi hb]
end Go.Proofs.YtplchdlgdjcojaaGreatDoor
end
section
namespace Go.Proofs.YtplchdlgdjcojaaGreatDoor
open Go
set_option linter.unusedSimpArgs false
set_option linter.unusedVariables false
theorem zTC {s:ByteArray} {i:Nat} (h:i<s.size):eltS s (i:Int)=some ((s[i]).toNat:Int):=by
  simp [eltS,h]
def chI (s:ByteArray) (i:Nat):Int:=((s[i]?).map fun b=>(b.toNat:Int)).getD 0
theorem zJx {s:ByteArray} {i:Nat} (h:i<s.size):eltS s (i:Int)=some (chI s i):=by
  rw [zTC h]
  simp [chI,h]
def jW (y:Int):Bool:=decide (y≥97)&&decide (y≤122)
def zGw (y:Int):Bool:=decide (y≥48)&&decide (y≤57)||(y==45)
def sO (s:ByteArray):Bool:=decide (1≤s.size)&&decide (s.size≤16)&&(jW (chI s 0)&&(List.range s.size).all fun i=>jW (chI s i)||zGw (chI s i))
theorem zDo (s:ByteArray):uD s=some (sO s):=by
  unfold uD
  by_cases h1:s.size<1
  · have : decide ((s.size : Int) < 1) = true := by simp; omega
    have h2:decide (1≤s.size)=false:=decide_eq_false (by omega)
    simp [this,sO,h2]
  by_cases h2:s.size>16
  · have e1 : decide ((s.size : Int) < 1) = false := by simp; omega
    have e2:decide ((s.size:Int)>16)=true:=by simp; omega
    have e3:decide (s.size≤16)=false:=by simp; omega
    simp [e1,e2,sO,e3]
  have e1:decide ((s.size:Int)<1)=false:=by simp; omega
  have e2:decide ((s.size:Int)>16)=false:=by simp; omega
  simp only [e1,e2,cond_false,bnd_some]
  have hl:=zFs (m:=fun (s1:Int)=>bif decide (s1<(s.size:Int)) then (bnd ((bnd (eltS s s1) fun y1=>bif decide (y1≥97) then (some (decide (y1≤122))) else (some false):Option Bool)) fun o4=>bnd ((bnd (eltS s s1) fun y2=>bif decide (y2≥48) then (bif decide (y2≤57) then (some true) else (some (y2==45))) else (some (y2==45)):Option Bool)) fun o5=>bnd ((bif !o4 then (bif (s1==0) then (some true) else (some (!o5))) else (some false):Option Bool)) fun o6=>bif o6 then (some (.done (.inl false))) else (some (.next (IntKind.wrap .i64 (s1+1))))) else (some (.done (.inr ()))))
    (fun i=>(i:Int)) s.size (fun i=>!jW (chI s i)&&(decide (i=0)||!zGw (chI s i))) (u:=(Sum.inl false:Bool ⊕ Unit)) (t:=.inr ()) (fun i hi=>?_) (by simp)
  · rw [show ((0 : Nat) : Int) = 0 from rfl] at hl
    rw [hl]
    simp only [bnd_some]
    have hn:sO s=!(List.range s.size).any (fun i=>!jW (chI s i)&&(decide (i=0)||!zGw (chI s i))):=by
      unfold sO
      have d1:decide (1≤s.size)=true:=by simp; omega
      have d2:decide (s.size≤16)=true:=by simp; omega
      rw [d1,d2,Bool.eq_iff_iff]
      simp only [Bool.true_and,Bool.and_eq_true,List.all_eq_true,List.mem_range,Bool.or_eq_true,Bool.not_eq_true',List.any_eq_false,decide_eq_true_eq,not_and,not_or]
      constructor
      · rintro ⟨g1, g2⟩ i hi hc
        rcases g2 i hi with g | g
        · simp [g] at hc
        · refine ⟨fun h0 => ?_, by simp [g]⟩
          subst h0
          simp [g1] at hc
      · intro g
        have hlet0:jW (chI s 0)=true:=by
          cases hc:jW (chI s 0)
          · exact absurd rfl (g 0 (by omega) (by simp [hc])).1
          · rfl
        refine ⟨hlet0,fun i hi=>?_⟩
        cases hc:jW (chI s i)
        · right
          have:=(g i hi (by simp [hc])).2
          simpa using this
        · exact .inl rfl
    rw [hn]
    cases (List.range s.size).any (fun i=>!jW (chI s i)&&(decide (i=0)||!zGw (chI s i))) <;> rfl
  · have h3 : decide ((i : Int) < (s.size : Int)) = true := by simpa using hi
    have h4:((i:Int)==0)=decide (i=0):=by
      rw [Bool.eq_iff_iff]; simp
    simp only [h3,cond_true,zJx hi,bnd_some,h4,zR hi (by omega:s.size≤140737488355328),jW,zGw]
    cases decide (chI s i≥97) <;> cases decide (chI s i≤122) <;> cases decide (chI s i≥48) <;> cases decide (chI s i≤57) <;> cases (chI s i==45) <;> cases decide (i=0) <;> rfl
theorem zLt (s:ByteArray):nI s=some (sO s):=by
  unfold nI
  by_cases h1:s.size<1
  · have : decide ((s.size : Int) < 1) = true := by simp; omega
    have h2:decide (1≤s.size)=false:=decide_eq_false (by omega)
    simp [this,sO,h2]
  by_cases h2:s.size>16
  · have e1 : decide ((s.size : Int) < 1) = false := by simp; omega
    have e2:decide ((s.size:Int)>16)=true:=by simp; omega
    have e3:decide (s.size≤16)=false:=by simp; omega
    simp [e1,e2,sO,e3]
  have e1:decide ((s.size:Int)<1)=false:=by simp; omega
  have e2:decide ((s.size:Int)>16)=false:=by simp; omega
  have hc0:eltS s 0=some (chI s 0):=zJx (i:=0) (by omega)
  have d1:decide (1≤s.size)=true:=by simp; omega
  have d2:decide (s.size≤16)=true:=by simp; omega
  simp only [e1,e2,cond_false,bnd_some,hc0]
  cases hl0:jW (chI s 0)
  · have hn : sO s = false := by simp [sO, hl0]
    rw [hn]
    simp only [jW,Bool.and_eq_false_iff,decide_eq_false_iff_not] at hl0
    by_cases g:chI s 0<97
    · simp [g]
    · have g2 : chI s 0 > 122 := by omega
      simp [g,g2]
  · have hl1 := hl0
    simp only [jW,Bool.and_eq_true,decide_eq_true_eq] at hl1
    have g1:decide (chI s 0<97)=false:=by simp; omega
    have g2:decide (chI s 0>122)=false:=by simp; omega
    simp only [g1,g2,cond_false,bnd_some]
    have hl:=zFs (m:=fun (s1:Int)=>bif decide (s1<(s.size:Int)) then (bnd ((bnd (eltS s s1) fun y2=>bif decide (y2≥97) then (bif decide (y2≤122) then (some false) else (bif decide (y2≥48) then (bif decide (y2≤57) then (some false) else (some (!(y2==45)))) else (some (!(y2==45))))) else (bif decide (y2≥48) then (bif decide (y2≤57) then (some false) else (some (!(y2==45)))) else (some (!(y2==45)))):Option Bool)) fun o4=>bif o4 then (some (.done (.inl false))) else (some (.next (IntKind.wrap .i64 (s1+1))))) else (some (.done (.inr ()))))
      (fun i=>(i:Int)) s.size (fun i=>!(jW (chI s i)||zGw (chI s i))) (u:=(Sum.inl false:Bool ⊕ Unit)) (t:=.inr ()) (fun i hi=>?_) (by simp)
    · rw [show ((0 : Nat) : Int) = 0 from rfl] at hl
      rw [hl]
      simp only [bnd_some]
      have hn:sO s=!(List.range s.size).any (fun i=>!(jW (chI s i)||zGw (chI s i))):=by
        unfold sO
        rw [d1,d2,hl0,Bool.eq_iff_iff]
        simp only [Bool.true_and,List.all_eq_true,List.mem_range,Bool.or_eq_true,Bool.not_eq_true',List.any_eq_false,Bool.not_eq_true,Bool.not_eq_false']
        constructor
        · intro g x hx hf
          rcases g x hx with g | g <;> simp [g] at hf
        · intro g x hx
          have:=g x hx
          cases a:jW (chI s x)
          · cases b : zGw (chI s x)
            · simp [a,b] at this
            · exact .inr rfl
          · exact .inl rfl
      rw [hn]
      cases (List.range s.size).any (fun i=>!(jW (chI s i)||zGw (chI s i))) <;> rfl
    · have h3 : decide ((i : Int) < (s.size : Int)) = true := by simpa using hi
      simp only [h3,cond_true,zJx hi,bnd_some,zR hi (by omega:s.size≤140737488355328),jW,zGw]
      cases decide (chI s i≥97) <;> cases decide (chI s i≤122) <;> cases decide (chI s i≥48) <;> cases decide (chI s i≤57) <;> cases (chI s i==45) <;> rfl
def zKL (n:Int):Bool:=decide (0≤n)&&decide (n≤999)
def iA (v:zJ):Bool:=zKL v.Major&&(zKL v.Minor&&zKL v.Patch)
theorem dlt (a b:Int):decide (a<b)=!decide (b≤a):=by
  by_cases h:b≤a
  · have : ¬ a < b := by omega
    simp [h,this]
  · have : a < b := by omega
    simp [h,this]
theorem zJH (v:zJ):vL v=some (iA v):=by
  unfold vL vH iA zKL
  simp only [bnd_some,gt_iff_lt,dlt]
  cases decide (0≤v.Major) <;> cases decide (v.Major≤999) <;> cases decide (0≤v.Minor) <;> cases decide (v.Minor≤999) <;> cases decide (0≤v.Patch) <;> cases decide (v.Patch≤999) <;> rfl
theorem zNr (v:zJ):pQ v=some (iA v):=by
  unfold pQ iA zKL
  simp only [ge_iff_le]
  cases decide (0≤v.Major) <;> cases decide (v.Major≤999) <;> cases decide (0≤v.Minor) <;> cases decide (v.Minor≤999) <;> cases decide (0≤v.Patch) <;> cases decide (v.Patch≤999) <;> rfl
def wM (i:zI):Bool:=sO i.Name&&(iA i.Version&&(decide (1≤i.Data.length)&&decide (i.Data.length≤512)))
theorem fC (i:zI):tB i=some (wM i):=by
  unfold tB wM
  have e1:decide ((i.Data.length:Int)≥1)=decide (1≤i.Data.length):=by rw [Bool.eq_iff_iff]; simp; omega
  have e2:decide ((i.Data.length:Int)≤512)=decide (i.Data.length≤512):=by rw [Bool.eq_iff_iff]; simp; omega
  simp only [zDo,zJH,bnd_some,e1,e2]
  cases sO i.Name <;> cases iA i.Version <;> cases decide (1≤i.Data.length) <;> cases decide (i.Data.length≤512) <;> rfl
theorem zDq (i:zI):pR i=some (wM i):=by
  unfold pR wM
  have e1:decide ((i.Data.length:Int)≥1)=decide (1≤i.Data.length):=by rw [Bool.eq_iff_iff]; simp; omega
  have e2:decide ((i.Data.length:Int)≤512)=decide (i.Data.length≤512):=by rw [Bool.eq_iff_iff]; simp; omega
  simp only [zLt,zNr,bnd_some,e1,e2]
  cases sO i.Name <;> cases iA i.Version <;> cases decide (1≤i.Data.length) <;> cases decide (i.Data.length≤512) <;> rfl
theorem rV {i:zI} (h:wM i=true):sO i.Name=true∧iA i.Version=true∧1≤i.Data.length∧i.Data.length≤512:=by
  simpa [wM] using h
theorem tI {s:ByteArray} (h:sO s=true):1≤s.size∧s.size≤16:=by
  simp only [sO,Bool.and_eq_true,decide_eq_true_eq] at h
  exact h.1
theorem qX (s:ByteArray):(oY s).length=s.size:=by simp [oY,ByteArray.toList_eq]
def two (n:Int):List Int:= [IntKind.wrap .u8 (uB .i64 n 8),IntKind.wrap .u8 n]
def zAW (v:zJ):List Int:=two v.Major++(two v.Minor++two v.Patch)
def zES (i:zI):List Int:=IntKind.wrap .u8 (i.Name.size:Int)::(oY i.Name++(zAW i.Version++(two (i.Data.length:Int)++i.Data)))
theorem oX {xs ys:List Int} (h:xs.length+ys.length≤140737488355328):app 1 xs ys=some (xs++ys):=uT (by omega) (by omega)
theorem aQ {i:zI} (h:i.Name.size≤16∧i.Data.length≤512):(zES i).length≤600:=by
  simp [zES,zAW,two,qX]
  omega
theorem zEW {i:zI} (h:i.Name.size≤16∧i.Data.length≤512):qM i=some (zES i):=by
  have hb:=qX i.Name
  unfold qM rX vT tA
  rw [oX (by simp)]
  simp only [bnd_some,List.nil_append]
  rw [oX (by simp [hb]; omega)]
  simp only [bnd_some]
  rw [oX (by simp [hb]; omega)]
  simp only [bnd_some]
  rw [oX (by simp [hb]; omega)]
  simp only [bnd_some]
  rw [oX (by simp [hb]; omega)]
  simp only [bnd_some]
  rw [oX (by simp [hb]; omega)]
  simp only [bnd_some]
  rw [oX (by simp [hb]; omega)]
  simp [zES,zAW,two]
theorem zHv {i:zI} (h:i.Name.size≤16∧i.Data.length≤512):pS i=some (zES i):=by
  have hb:=qX i.Name
  unfold pS pE uK qW
  rw [oX (by simp [hb]; omega)]
  simp only [bnd_some]
  rw [oX (by simp)]
  simp only [bnd_some]
  rw [oX (by simp)]
  simp only [bnd_some]
  rw [oX (by simp [hb]; omega)]
  simp only [bnd_some]
  rw [oX (by simp [hb]; omega)]
  simp only [bnd_some]
  rw [oX (by simp [hb]; omega)]
  simp [zES,zAW,two]
def kF (i:zI):Int:=bif wM i then IntKind.wrap .u32 (4294967295 - zCV (zES i)) else 0
theorem zCw (i:zI):qY i=some (kF i):=by
  unfold qY kF
  rw [fC]
  cases h:wM i
  · rfl
  · obtain ⟨h1, h2, h3, h4⟩ := rV h
    have hs:i.Name.size≤16∧i.Data.length≤512:=⟨(tI h1).2,h4⟩
    have hl:=aQ hs
    simp only [bnd_some,Bool.not_true,cond_false,zEW hs]
    rw [zEF _ (by omega)]
    rfl
theorem zNI (i:zI):jY i=some (kF i):=by
  unfold jY kF
  rw [zDq]
  cases h:wM i
  · rfl
  · obtain ⟨h1, h2, h3, h4⟩ := rV h
    have hs:i.Name.size≤16∧i.Data.length≤512:=⟨(tI h1).2,h4⟩
    have hl:=aQ hs
    simp only [bnd_some,Bool.not_true,cond_false,zHv hs]
    rw [zNT _ (by omega)]
    rfl
theorem zBF (i:zI):kN (kF i):=by
  unfold kF
  cases wM i
  · exact ⟨by show (0:Int)≤0; omega,by show (0:Int)≤4294967295; omega⟩
  · exact cS _
def zCS (s:yF):Bool:=wM s.Image&&(s.Sum==kF s.Image)
def oU (s:yF) (n:ByteArray):Bool:=zCS s&&decide (s.Image.Name=n)
theorem zLS (s:yF):iZ s=some (zCS s):=by
  unfold iZ zCS
  simp only [fC,zCw,bnd_some]
  cases wM s.Image <;> rfl
theorem zFH (d:zB) (s:yF):oR d s=some (oU s d.Name):=by
  unfold oR oU
  simp only [zLS,bnd_some,bE]
  cases zCS s <;> rfl
end Go.Proofs.YtplchdlgdjcojaaGreatDoor
end
section
namespace Go.Proofs.YtplchdlgdjcojaaGreatDoor
open Go
set_option linter.unusedSimpArgs false
set_option linter.unusedVariables false
def bit (k:Int):Prop:=k=0∨k=1
instance (k:Int):Decidable (bit k):=by unfold bit; infer_instance
def qA (a:qS yF) (k:Int):yF:=if k=0 then a.e0 else a.e1
def kZ (a:qS yF) (k:Int) (y:yF):qS yF:=if k=0 then ⟨y,a.e1⟩ else ⟨a.e0,y⟩
def zQD:zI:=⟨⟨#[]⟩,⟨0,0,0⟩, []⟩
def lR:yF:=⟨zQD,0⟩
def aL:zB:=⟨⟨#[]⟩,⟨lR,lR⟩,0,0,false⟩
theorem zGF (a:qS yF) {k:Int} (h:bit k):elt [a.e0,a.e1] k=some (qA a k):=by
  rcases h with rfl | rfl <;> rfl
theorem zUZ (a:qS yF) (y:yF) {k:Int} (h:bit k):qS.set a k y=some (kZ a k y):=by
  rcases h with rfl | rfl <;> rfl
theorem zWe {k:Int} (h:bit k):IntKind.wrap .i64 (1 - k)=1 - k:=by
  rcases h with rfl | rfl <;> exact yQ (by omega) (by omega)
theorem sM {k:Int} (h:bit k):bit (1 - k):=by rcases h with rfl | rfl <;> simp [bit]
theorem zFe {a:qS yF} {y:yF} {k:Int}:qA (kZ a k y) k=y:=by
  unfold qA kZ; by_cases h:k=0 <;> simp [h]
theorem zLq {a:qS yF} {y:yF} {k j:Int} (hk:bit k) (hj:bit j) (h:j≠k):qA (kZ a k y) j=qA a j:=by
  rcases hk with rfl | rfl <;> rcases hj with rfl | rfl <;> simp_all [qA,kZ]
def lE (d:zB):Bool:=
  decide (bit d.Active)&&(decide (bit d.Running)&&(oU (qA d.Slots d.Active) d.Name&&(oU (qA d.Slots d.Running) d.Name&&(!d.Trial||(decide (d.Running=d.Active)&&oU (qA d.Slots (1 - d.Active)) d.Name)))))
theorem zHn (k:Int):k<0∨bit k∨k>1:=by unfold bit; omega
theorem jZ (d:zB):tZ d=some (lE d):=by
  unfold tZ lE uV
  simp only [zFH,bnd_some]
  rcases zHn d.Active with h | h | h
  · have h1 : ¬ bit d.Active := by unfold bit; omega
    simp [h,h1]
  · have g1 : decide (d.Active < 0) = false := by rcases h with h | h <;> rw [h] <;> rfl
    have g2:decide (d.Active>1)=false:=by rcases h with h | h <;> rw [h] <;> rfl
    simp only [g1,g2,cond_false,h,decide_true,Bool.true_and,zGF _ h,bnd_some]
    rcases zHn d.Running with k | k | k
    · have k1 : ¬ bit d.Running := by unfold bit; omega
      simp [k,k1]
    · have k1 : decide (d.Running < 0) = false := by rcases k with k | k <;> rw [k] <;> rfl
      have k2:decide (d.Running>1)=false:=by rcases k with k | k <;> rw [k] <;> rfl
      simp only [k1,k2,cond_false,k,decide_true,Bool.true_and,zGF _ k,bnd_some,zWe k,zGF _ (sM k)]
      have e:(d.Running==d.Active)=decide (d.Running=d.Active):=rfl
      rw [e]
      by_cases hra:d.Running=d.Active
      · simp only [hra, decide_true, cond_true]
        cases oU (qA d.Slots d.Active) d.Name <;> cases oU (qA d.Slots (1 - d.Active)) d.Name <;> cases d.Trial <;> rfl
      · simp only [hra, decide_false, cond_false]
        cases oU (qA d.Slots d.Active) d.Name <;> cases oU (qA d.Slots d.Running) d.Name <;> cases d.Trial <;> rfl
    · have k1 : ¬ bit d.Running := by unfold bit; omega
      have k2:decide (d.Running<0)=false:=by simp; omega
      simp [k,k1,k2]
  · have h1 : ¬ bit d.Active := by unfold bit; omega
    have h2:decide (d.Active<0)=false:=by simp; omega
    simp [h,h1,h2]
structure VD (d:zB):Prop where
  ba:bit d.Active
  br:bit d.Running
  ga:oU (qA d.Slots d.Active) d.Name=true
  gr:oU (qA d.Slots d.Running) d.Name=true
  tr:d.Trial=true→d.Running=d.Active∧oU (qA d.Slots (1 - d.Active)) d.Name=true
theorem qK (d:zB):lE d=true↔VD d:=by
  unfold lE
  simp only [Bool.and_eq_true,decide_eq_true_eq,Bool.or_eq_true,Bool.not_eq_true']
  constructor
  · rintro ⟨h1, h2, h3, h4, h5⟩
    exact ⟨h1,h2,h3,h4,fun ht=>by rcases h5 with h5 | h5 <;> simp_all⟩
  · rintro ⟨h1, h2, h3, h4, h5⟩
    refine ⟨h1,h2,h3,h4,?_⟩
    cases ht:d.Trial
    · exact .inl rfl
    · exact .inr (h5 ht)
def wrE (d:zB):Int:=bif lE d then (bif (d.Running != d.Active) then 46 else bif d.Trial then 46 else 0) else 1
theorem zEz (d:zB):tQ d=some (wrE d):=by
  unfold tQ wrE
  simp only [jZ,bnd_some]
  cases lE d <;> cases (d.Running != d.Active) <;> cases d.Trial <;> rfl
theorem zEj {d:zB} (h:wrE d=0):VD d∧d.Running=d.Active∧d.Trial=false:=by
  unfold wrE at h
  cases hv:lE d
  · simp [hv] at h
  · simp only [hv, cond_true] at h
    cases hr:(d.Running != d.Active)
    · simp only [hr, cond_false] at h
      cases ht:d.Trial
      · exact ⟨(qK d).1 hv,by simpa using hr,rfl⟩
      · simp [ht] at h
    · simp [hr] at h
theorem zNv {d:zB} (h:VD d) (hr:d.Running=d.Active) (ht:d.Trial=false):wrE d=0:=by
  unfold wrE
  rw [(qK d).2 h,hr,ht]
  simp
def small (i:zI):Prop:=i.Data.length≤1000
def nR (d:zB):Prop:=small d.Slots.e0.Image∧small d.Slots.e1.Image
theorem zMD {d:zB} (h:nR d) {k:Int} {y:yF} (hy:small y.Image):small (kZ d.Slots k y).e0.Image∧small (kZ d.Slots k y).e1.Image:=by
  unfold kZ
  split
  · exact ⟨hy,h.2⟩
  · exact ⟨h.1,hy⟩
theorem bH {i:zI} (h:small i):pD i=some i:=by
  unfold pD zQ
  unfold small at h
  rw [oX (by simp; omega)]
  rfl
theorem zOM {i:zI} (h:small i):jC i=some i:=by
  unfold jC
  unfold small at h
  rw [oX (by simp; omega)]
  rfl
theorem mZ {d:zB} (h:nR d):uX d=some d:=by
  unfold uX
  rw [bH h.1]
  simp only [bnd_some]
  rw [bH h.2]
  rfl
def zIy (d:zB):zB × Int:=bif (wrE d != 0) then (aL,wrE d) else (⟨d.Name,kZ d.Slots (1 - d.Running) lR,d.Active,d.Running,d.Trial⟩,0)
def bF (d:zB) (i:zI) (n:Int):Bool:=wM i&&(decide (i.Name=d.Name)&&(decide (0≤n)&&decide (n≤(i.Data.length:Int))))
def zIr (d:zB) (i:zI) (n:Int):zB × Int:=
  bif (wrE d != 0) then (aL,wrE d) else bif bF d i n then (⟨d.Name,kZ d.Slots (1 - d.Running) ⟨⟨i.Name,i.Version,i.Data.take n.toNat⟩,0⟩,d.Active,d.Running,d.Trial⟩,0) else (aL,2)
def zEq (d:zB) (s:Int):zB × Int:=
  bif (wrE d != 0) then (aL,wrE d) else bif oU ⟨(qA d.Slots (1 - d.Running)).Image,s⟩ d.Name then (⟨d.Name,kZ d.Slots (1 - d.Running) ⟨(qA d.Slots (1 - d.Running)).Image,s⟩,d.Active,d.Running,d.Trial⟩,0) else (aL,5)
def zEu (d:zB):zB × Int:=
  bif (wrE d != 0) then (aL,wrE d) else bif oU (qA d.Slots (1 - d.Running)) d.Name then (⟨d.Name,d.Slots,d.Active,d.Running,true⟩,0) else (aL,46)
def zAj (d:zB):zB:=bif lE d then (bif d.Trial then ⟨d.Name,d.Slots,d.Active,1 - d.Active,false⟩ else ⟨d.Name,d.Slots,d.Active,d.Active,d.Trial⟩) else aL
def zBL (d:zB):zB × Int:=bif lE d then (bif d.Trial then (aL,46) else (⟨d.Name,d.Slots,d.Running,d.Running,d.Trial⟩,0)) else (aL,1)
def gO (d:zB):zJ:=bif lE d then (qA d.Slots d.Running).Image.Version else ⟨0,0,0⟩
def zBS (i:zI):zB × Int:=bif wM i then (⟨i.Name,⟨⟨i,kF i⟩,lR⟩,0,0,false⟩,0) else (aL,1)
theorem zKW {i:zI} (h:small i):mO i=some (zBS i):=by
  unfold mO zBS
  simp only [fC,bH h,zCw,bnd_some]
  cases wM i <;> rfl
theorem zTN {i:zI} (h:small i):fY i=some (zBS i):=by
  unfold fY zBS
  simp only [zDq,zOM h,zNI,bnd_some]
  cases wM i <;> rfl
theorem gY {d:zB} (h:bit d.Running):uV d=some (1 - d.Running):=by
  unfold uV
  rw [zWe h,zGF _ (sM h)]
  rfl
theorem zMe {d:zB} (h:nR d):gA d=some (zIy d):=by
  unfold gA zIy
  simp only [zEz,mZ h,bnd_some]
  by_cases hw:wrE d=0
  · obtain ⟨hv, hr, ht⟩ := zEj hw
    have e:(wrE d != 0)=false:=by simp [hw]
    simp only [e,cond_false,gY hv.br,bnd_some,zGF _ (sM hv.br),zUZ _ _ (sM hv.br)]
    rfl
  · have e : (wrE d != 0) = true := by simp [hw]
    simp only [e,cond_true]
    rfl
theorem zRk {α:Type} {l:List α} {n:Int} (h0:0≤n) (h1:n≤(l.length:Int)):sub l 0 n=some (l.take n.toNat):=by
  simp [sub,h0,h1]
theorem zMg {d:zB} {i:zI} (h:nR d) (hi:small i) (n:Int):gB d i n=some (zIr d i n):=by
  unfold gB zIr
  simp only [zEz,fC,bE,bnd_some]
  by_cases hw:wrE d=0
  · obtain ⟨hv, hr, ht⟩ := zEj hw
    have e:(wrE d != 0)=false:=by simp [hw]
    simp only [e,cond_false,gt_iff_lt,dlt]
    have eo:(bif !wM i then some true else bif !decide (i.Name=d.Name) then some true else bif !decide (0≤n) then some true else some (!decide (n≤(i.Data.length:Int))):Option Bool)=some (!bF d i n):=by
      unfold bF
      cases wM i <;> cases decide (i.Name=d.Name) <;> cases decide (0≤n) <;> cases decide (n≤(i.Data.length:Int)) <;> rfl
    rw [eo]
    simp only [bnd_some]
    cases ho:bF d i n
    · rfl
    · simp only [bF, Bool.and_eq_true, decide_eq_true_eq] at ho
      have hs:small (⟨i.Name,i.Version,i.Data.take n.toNat⟩:zI):=by
        unfold small at*
        simp
        omega
      simp only [Bool.not_true,cond_false,cond_true,mZ h,bnd_some,zRk ho.2.2.1 ho.2.2.2,gY hv.br,bH hs,zGF _ (sM hv.br),zUZ _ _ (sM hv.br)]
  · have e : (wrE d != 0) = true := by simp [hw]
    simp only [e,cond_true]
    rfl
theorem zKU {d:zB} (h:nR d) (s:Int):jD d s=some (zEq d s):=by
  unfold jD zEq
  simp only [zEz,mZ h,bnd_some]
  by_cases hw:wrE d=0
  · obtain ⟨hv, hr, ht⟩ := zEj hw
    have e:(wrE d != 0)=false:=by simp [hw]
    simp only [e,cond_false,gY hv.br,bnd_some,zGF _ (sM hv.br),zUZ _ _ (sM hv.br),zFH]
    rw [gY (d:=⟨d.Name,kZ d.Slots (1 - d.Running) ⟨(qA d.Slots (1 - d.Running)).Image,s⟩,d.Active,d.Running,d.Trial⟩) hv.br]
    simp only [bnd_some,zGF _ (sM hv.br),zFe]
    cases oU ⟨(qA d.Slots (1 - d.Running)).Image,s⟩ d.Name <;> rfl
  · have e : (wrE d != 0) = true := by simp [hw]
    simp only [e,cond_true]
    rfl
theorem aE {d:zB} (h:nR d):mC d=some (zEu d):=by
  unfold mC zEu
  simp only [zEz,mZ h,bnd_some]
  by_cases hw:wrE d=0
  · obtain ⟨hv, hr, ht⟩ := zEj hw
    have e:(wrE d != 0)=false:=by simp [hw]
    simp only [e,cond_false,gY hv.br,bnd_some,zGF _ (sM hv.br),zFH]
    cases oU (qA d.Slots (1 - d.Running)) d.Name <;> rfl
  · have e : (wrE d != 0) = true := by simp [hw]
    simp only [e,cond_true]
    rfl
theorem dS {d:zB} (h:nR d):mS d=some (zAj d):=by
  unfold mS zAj
  simp only [jZ,mZ h,bnd_some]
  cases hv:lE d
  · rfl
  · have := ((qK d).1 hv).ba
    simp only [zWe this,Bool.not_true,cond_false,cond_true]
    cases d.Trial <;> rfl
theorem zCn {d:zB} (h:nR d):oQ d=some (zBL d):=by
  unfold oQ zBL
  simp only [jZ,mZ h,bnd_some]
  cases lE d <;> cases d.Trial <;> rfl
theorem zIN (d:zB):lK d=some (gO d):=by
  unfold lK gO
  simp only [jZ,bnd_some]
  cases hv:lE d
  · rfl
  · simp only [Bool.not_true,cond_false,cond_true,zGF _ ((qK d).1 hv).br,bnd_some]
theorem zEE (i:zI):rS i i=some true:=by
  unfold rS
  simp
theorem zOH (d:zB):gC d d=some true:=by
  unfold gC
  simp [zEE]
end Go.Proofs.YtplchdlgdjcojaaGreatDoor
end
section
namespace Go.Proofs.YtplchdlgdjcojaaGreatDoor
open Go
set_option linter.unusedSimpArgs false
set_option linter.unusedVariables false
theorem zMv {x:Int}:inK .u8 x↔0≤x∧x≤255:=Iff.rfl
structure vG (c:xQ):Prop where
  hl:∀ x∈c.L,inK .u8 x
  h0:0≤c.At
  hn:c.L.length≤140737488355328
  ha:c.At≤(c.L.length:Int)
theorem zPx {a b:Int} (ha:0≤a∧a<65536) (hb:0≤b∧b<65536):0≤iOr .i64 a b∧iOr .i64 a b<65536:=by
  unfold iOr
  have e:(BitVec.ofInt (IntKind.bits .i64) a|||BitVec.ofInt (IntKind.bits .i64) b).toNat=a.toNat|||b.toNat:=by
    show (BitVec.ofInt 64 a|||BitVec.ofInt 64 b).toNat=_
    rw [BitVec.toNat_or,BitVec.toNat_ofInt,BitVec.toNat_ofInt]
    congr 1 <;> omega
  rw [e]
  have h:=Nat.or_lt_two_pow (x:=a.toNat) (y:=b.toNat) (n:=16) (by omega) (by omega)
  rw [yQ (by omega) (by omega)]
  omega
theorem zXj {x:Int} (h:0≤x∧x≤255):kT .i64 x 8=x*256:=by
  unfold kT
  have:(2:Int) ^ (min (Int.toNat 8) (IntKind.bits .i64))=256:=by decide
  rw [this,yQ (by omega) (by omega)]
theorem zNo {v n:Int} (hv:0≤v) (hn:1≤n):∃ x,zLk v n=some x∧0≤x∧x<n:=by
  refine ⟨v % n,?_,Int.emod_nonneg _ (by omega),Int.emod_lt_of_pos _ (by omega)⟩
  unfold zLk
  rw [if_neg (by omega),Int.tmod_eq_emod_of_nonneg hv]
theorem zTZ {c:xQ} (h:vG c) (n:Int):∃ c' x,yG c n=some (c',x)∧vG c'∧0≤x∧(x=0∨x<n):=by
  unfold yG sR
  simp only [bnd_some]
  obtain ⟨hl,h0,hn,ha⟩:=h
  by_cases hlt:c.At<(c.L.length:Int)
  · have d1 : decide (c.At < (c.L.length : Int)) = true := by simpa using hlt
    simp only [d1,Bool.not_true,cond_false,bnd_some]
    by_cases hn1:n<1
    · simp only [hn1, decide_true, cond_true]
      exact ⟨c,0,rfl,⟨hl,h0,hn,ha⟩,by omega, .inl rfl⟩
    simp only [hn1,decide_false,cond_false]
    obtain ⟨k,hk⟩:∃ k:Nat,c.At=(k:Int):=⟨c.At.toNat,by omega⟩
    have hkl:k<c.L.length:=by omega
    have hx:=zMv.1 (hl _ (List.getElem_mem hkl))
    rw [hk,yV hkl]
    simp only [bnd_some]
    have hw:IntKind.wrap .i64 ((k:Int)+1)=((k+1:Nat):Int):=zR hkl hn
    have hx':IntKind.wrap .i64 c.L[k]=c.L[k]:=yQ (by omega) (by omega)
    rw [hw,hx']
    have hok1:vG (⟨c.L,((k+1:Nat):Int)⟩:xQ):=⟨hl,by show (0:Int)≤((k+1:Nat):Int); omega,hn,by show ((k+1:Nat):Int)≤(c.L.length:Int); omega⟩
    by_cases hbig:n>256∧k+1<c.L.length
    · have d2 : decide (n > 256) = true := by simpa using hbig.1
      have d3:decide (((k+1:Nat):Int)<(c.L.length:Int))=true:=by simp; omega
      have hy:=zMv.1 (hl _ (List.getElem_mem hbig.2))
      have hy':IntKind.wrap .i64 c.L[k+1]=c.L[k+1]:=yQ (by omega) (by omega)
      simp only [d2,d3,cond_true,bnd_some,yV hbig.2,hy',zXj hy]
      have ho:=zPx (a:=c.L[k]) (b:=c.L[k+1]*256) (by omega) (by omega)
      obtain ⟨x,e1,e2,e3⟩:=zNo (n:=n) ho.1 (by omega)
      rw [e1]
      have hw2:IntKind.wrap .i64 (((k+1:Nat):Int)+1)=((k+2:Nat):Int):=zR hbig.2 hn
      exact ⟨_,x,rfl,⟨hl,by show 0≤IntKind.wrap .i64 _; rw [hw2]; omega,hn,by show IntKind.wrap .i64 _≤(c.L.length:Int); rw [hw2]; omega⟩,e2, .inr e3⟩
    · have d2 : (bif decide (n > 256) then some (decide (((k + 1 : Nat) : Int) < (c.L.length : Int))) else some false : Option Bool) = some false := by
        by_cases g:n>256
        · have : ¬ k + 1 < c.L.length := fun h => hbig ⟨g, h⟩
          have d3:decide (((k+1:Nat):Int)<(c.L.length:Int))=false:=by simp; omega
          rw [d3]
          simp [g]
        · simp [g]
      rw [d2]
      simp only [bnd_some,cond_false]
      obtain ⟨x,e1,e2,e3⟩:=zNo (n:=n) hx.1 (by omega)
      rw [e1]
      exact ⟨_,x,rfl,hok1,e2, .inr e3⟩
  · have d1 : decide (c.At < (c.L.length : Int)) = false := by simpa using hlt
    simp only [d1,Bool.not_false,cond_true,bnd_some]
    exact ⟨c,0,rfl,⟨hl,h0,hn,ha⟩,by omega, .inl rfl⟩
theorem zPq {l:List Int} (h:okL (inK .u8) l) {most:Int} (h0:0≤most) (h1:most≤100000):∃ c,eB l most=some c∧vG c:=by
  unfold eB
  have hs:sub l 0 (min (l.length:Int) most)=some (l.take (min (l.length:Int) most).toNat):=by
    unfold sub
    rw [if_pos ⟨by omega,by omega,by omega⟩]
    simp
  rw [hs]
  refine ⟨_,rfl,fun x hx=>h.1 x (List.mem_of_mem_take hx),by simp,?_,by simp⟩
  simp only [List.length_take]
  omega
end Go.Proofs.YtplchdlgdjcojaaGreatDoor
end
section
namespace Go.Proofs.YtplchdlgdjcojaaGreatDoor
open Go
set_option linter.unusedSimpArgs false
set_option linter.unusedVariables false
structure Inv (d:zB) (n:ByteArray):Prop where
  vd:VD d
  nm:d.Name=n
  sm:nR d
theorem zIz {d:zB} {n:ByteArray} (h:Inv d n) (hr:d.Running=d.Active) (ht:d.Trial=false) {y:yF} (hy:small y.Image):
    Inv ⟨d.Name,kZ d.Slots (1 - d.Running) y,d.Active,d.Running,d.Trial⟩ n:=by
  obtain ⟨⟨ba,br,ga,gr,tr⟩,nm,sm⟩:=h
  have hne:d.Running≠1 - d.Running:=by rcases br with h | h <;> rw [h] <;> decide
  have e:qA (kZ d.Slots (1 - d.Running) y) d.Running=qA d.Slots d.Running:=zLq (sM br) br hne
  refine ⟨⟨ba,br,?_,?_,fun h=>?_⟩,nm,zMD sm hy⟩
  · simp only; rw [←hr,e]; exact gr
  · simp only; rw [e]; exact gr
  · rw [ht] at h; cases h
theorem zGl:small zQD:=by unfold small zQD; simp
theorem zUb {i:zI} (h:wM i=true):Inv (zBS i).1 i.Name∧(zBS i).2=0∧(zBS i).1=⟨i.Name,⟨⟨i,kF i⟩,lR⟩,0,0,false⟩:=by
  unfold zBS
  rw [h]
  have hs:=rV h
  have hg:oU ⟨i,kF i⟩ i.Name=true:=by simp [oU,zCS,h]
  refine ⟨⟨⟨.inl rfl, .inl rfl,hg,hg,fun h=>by cases h⟩,rfl,?_,zGl⟩,rfl,rfl⟩
  show i.Data.length≤1000
  omega
theorem zQC {v:zJ} (h1:0≤v.Major) (h2:v.Major≤999) (h3:0≤v.Minor) (h4:v.Minor≤999) (h5:0≤v.Patch) (h6:v.Patch≤999):iA v=true:=by
  simp [iA,zKL, *]
theorem zQk {i:zI} (h1:sO i.Name=true) (h2:iA i.Version=true) (h3:1≤i.Data.length) (h4:i.Data.length≤512):wM i=true:=by
  simp [wM, *]
end Go.Proofs.YtplchdlgdjcojaaGreatDoor
end
section
namespace Go.Proofs.YtplchdlgdjcojaaGreatDoor
open Go
set_option linter.unusedSimpArgs false
set_option linter.unusedVariables false
theorem zBI:∀ (x y:List UInt8),(Op.bytesLess x y||(x==y))=!Op.bytesLess y x
  | [], []=>rfl
  | [],_::_=>rfl
  | _::_, []=>rfl
  | a::x,b::y=>by
    have ih:=zBI x y
    simp only [Op.bytesLess,List.cons_beq_cons]
    by_cases h:a=b
    · subst h
      have:¬ a<a:=UInt8.lt_irrefl a
      simp [this]
      simpa using ih
    · have h1 : (a == b) = false := by simpa using h
      have h2:(b==a)=false:=by simpa using fun e=>h e.symm
      rw [h1,h2]
      simp only [Bool.false_and,Bool.or_false]
      by_cases hl:a<b
      · have : ¬ b < a := UInt8.lt_asymm hl
        simp [hl,this]
      · have : b < a := by
          rcases UInt8.lt_or_lt_of_ne h with g | g
          · exact absurd g hl
          · exact g
        simp [hl,this]
def zPG (x:Nat):Bool:=decide (97≤x)&&decide (x≤122)
def zHY (x:Nat):Bool:=(decide (48≤x)&&decide (x≤57))||x==45
def lN (s:ByteArray):Bool:=decide (1≤(bs s).length)&&decide ((bs s).length≤16)&&(List.range (bs s).length).all fun i=>match (bs s)[i]? with | some x=>zPG x||(i != 0&&zHY x) | none=>true
def zCs (v:zJ):Bool:=decide (0≤v.Major)&&decide (v.Major≤999)&&(decide (0≤v.Minor)&&decide (v.Minor≤999))&&(decide (0≤v.Patch)&&decide (v.Patch≤999))
theorem zAm {α:Type} (l:List α) (p:α→Bool):(l.any fun x=>!p x)=!l.all p:=by
  induction l with
  | nil=>rfl
  | cons x r ih=>simp [ih,Bool.not_and]
theorem zIX (s:ByteArray):uD s=some (lN s):=by
  unfold uD
  have hl:(bs s).length=s.size:=bs_len s
  by_cases h:(s.size<1)∨(16<s.size)
  · have e1 : (bif decide ((s.size : Int) < 1) then some true else some (decide ((s.size : Int) > 16)) : Option Bool) = some true := by
      by_cases h1:s.size<1
      · have : decide ((s.size : Int) < 1) = true := by simp; omega
        rw [this]; rfl
      · have : decide ((s.size : Int) < 1) = false := by simp; omega
        rw [this]; simp; omega
    rw [e1]
    have:lN s=false:=by
      unfold lN
      rw [hl]
      rcases h with h | h
      · have : decide (1 ≤ s.size) = false := decide_eq_false (by omega)
        rw [this]; rfl
      · have : decide (s.size ≤ 16) = false := decide_eq_false (by omega)
        rw [this]; simp
    rw [this]
    rfl
  · have h1 : decide ((s.size : Int) < 1) = false := by simp; omega
    have h2:decide ((s.size:Int)>16)=false:=by simp; omega
    simp only [h1,h2,cond_false,bnd_some]
    refine nC (fun (i:Nat)=>(i:Int)) s.size (fun i=>match (bs s)[i]? with | some x=>!(zPG x||(i != 0&&zHY x)) | none=>false) (.inl false) (.inr ()) rfl (fun i hi=>?_) ?_ ?_
    · have hib : i < (bs s).length := by omega
      have d0:decide ((i:Int)<(s.size:Int))=true:=by simp; omega
      simp only [d0,cond_true,zTQ hi,bnd_some,zR hi (by omega)]
      rw [List.getElem?_eq_getElem hib]
      generalize (bs s)[i]=x
      have a1:decide ((x:Int)≥97)=decide (97≤x):=by congr 1; simp; omega
      have a2:decide ((x:Int)≤122)=decide (x≤122):=by congr 1; simp; omega
      have a3:decide ((x:Int)≥48)=decide (48≤x):=by congr 1; simp; omega
      have a4:decide ((x:Int)≤57)=decide (x≤57):=by congr 1; simp; omega
      have a5:((x:Int)==45)=(x==45):=by
        rw [Bool.eq_iff_iff,beq_iff_eq,beq_iff_eq]
        omega
      have a6:((i:Int)==0)=(i==0):=by rw [Bool.eq_iff_iff]; simp
      rw [a1,a2,a3,a4,a5,a6]
      simp only [zPG,zHY,bne]
      cases decide (97≤x) <;> cases decide (x≤122) <;> cases decide (48≤x) <;> cases decide (x≤57) <;> cases x==45 <;> cases i==0 <;> rfl
    · have d0 : decide ((s.size : Int) < (s.size : Int)) = false := by simp
      simp only [d0,cond_false]
    · have e2 : (List.range s.size).any (fun i => match (bs s)[i]? with | some x => !(zPG x || (i != 0 && zHY x)) | none => false) = !((List.range (bs s).length).all fun i => match (bs s)[i]? with | some x => zPG x || (i != 0 && zHY x) | none => true) := by
        rw [←zAm,hl]
        congr 1
        funext i
        cases (bs s)[i]? <;> rfl
      rw [e2]
      unfold lN
      have b1:decide (1≤(bs s).length)=true:=by rw [hl]; simp; omega
      have b2:decide ((bs s).length≤16)=true:=by rw [hl]; simp; omega
      rw [b1,b2]
      cases (List.range (bs s).length).all fun i=>match (bs s)[i]? with | some x=>zPG x||(i != 0&&zHY x) | none=>true <;> rfl
theorem zQU (v:zJ):vL v=some (zCs v):=by
  unfold vL vH zCs
  simp only [bnd_some]
  have h1:∀ x:Int,decide (x<0)=!decide (0≤x):=fun x=>by rw [←decide_not]; congr 1; simp
  have h2:∀ x:Int,decide (x>999)=!decide (x≤999):=fun x=>by rw [←decide_not]; congr 1; simp
  simp only [h1,h2]
  cases decide (0≤v.Major) <;> cases decide (v.Major≤999) <;> cases decide (0≤v.Minor) <;> cases decide (v.Minor≤999) <;> cases decide (0≤v.Patch) <;> cases decide (v.Patch≤999) <;> rfl
def blt (a b:ByteArray):Bool:=Op.bytesLess a.data.toList b.data.toList
theorem zRi (a b:ByteArray):Op.bytesLess a.toList b.toList=blt a b:=by rw [ByteArray.toList_eq,ByteArray.toList_eq]; rfl
def cOk (l:List zN) (i:Nat):Bool:=match l[i]? with
  | some x=>lN x.Name&&zCs x.Version&&(i==0||match l[i - 1]? with | some y=>blt y.Name x.Name | none=>true)
  | none=>true
def tM (l:List zN):Bool:=decide (l.length≤8)&&(List.range l.length).all (cOk l)
theorem zRm (l:List zN):vW l=some (tM l):=by
  unfold vW tM
  by_cases h:8<l.length
  · have d1 : decide ((l.length : Int) > 8) = true := by simp; omega
    have d2:decide (l.length≤8)=false:=by simp; omega
    rw [d1,d2]; rfl
  · have d1 : decide ((l.length : Int) > 8) = false := by simp; omega
    have d2:decide (l.length≤8)=true:=by simp; omega
    rw [d1,d2]
    simp only [cond_false,Bool.true_and]
    refine nC (fun (i:Nat)=>(i:Int)) l.length (fun i=>!cOk l i) (.inl false) (.inr ()) rfl (fun i hi=>?_) ?_ ?_
    · have d0 : decide ((i : Int) < (l.length : Int)) = true := by simp; omega
      simp only [d0,cond_true,yV hi,bnd_some,zIX,zQU,zR hi (by omega),cOk,List.getElem?_eq_getElem hi]
      by_cases h0:i=0
      · subst h0
        have e:decide (((0:Nat):Int)>0)=false:=by simp
        rw [e]
        cases lN l[0].Name <;> cases zCs l[0].Version <;> rfl
      · have e : decide ((i : Int) > 0) = true := by simp; omega
        have e2:(i==0)=false:=by simp [h0]
        have hp:i - 1<l.length:=by omega
        rw [e,e2,zAH (n:=l.length) (by omega) hi (by omega),yV hp,List.getElem?_eq_getElem hp]
        simp only [bnd_some,zBI,Bool.false_or,cond_true]
        simp only [zRi]
        cases lN l[i].Name <;> cases zCs l[i].Version <;> cases blt l[i - 1].Name l[i].Name <;> rfl
    · have d0 : decide ((l.length : Int) < (l.length : Int)) = false := by simp
      simp only [d0,cond_false]
    · rw [zAm]
      cases (List.range l.length).all (cOk l) <;> rfl
def nOk (x:zU):Bool:=lN x.Component&&lN x.On&&!decide (bs x.Component=bs x.On)&&zCs x.From&&zCs x.At
def jN (l:List zU):Bool:=decide (l.length≤16)&&l.all nOk
theorem zSH (l:List zU):rF l=some (jN l):=by
  unfold rF jN
  by_cases h:16<l.length
  · have d1 : decide ((l.length : Int) > 16) = true := by simp; omega
    have d2:decide (l.length≤16)=false:=by simp; omega
    rw [d1,d2]; rfl
  · have d1 : decide ((l.length : Int) > 16) = false := by simp; omega
    have d2:decide (l.length≤16)=true:=by simp; omega
    rw [d1,d2]
    simp only [cond_false,Bool.true_and]
    refine nC (fun (i:Nat)=>(i:Int)) l.length (fun i=>match l[i]? with | some x=>!nOk x | none=>false) (.inl false) (.inr ()) rfl (fun i hi=>?_) ?_ ?_
    · have d0 : decide ((i : Int) < (l.length : Int)) = true := by simp; omega
      simp only [d0,cond_true,yV hi,bnd_some,zIX,zQU,zR hi (by omega),List.getElem?_eq_getElem hi,zBR,nOk]
      generalize l[i]=x
      cases lN x.Component <;> cases lN x.On <;> cases decide (bs x.Component=bs x.On) <;> cases zCs x.From <;> cases zCs x.At <;> rfl
    · have d0 : decide ((l.length : Int) < (l.length : Int)) = false := by simp
      simp only [d0,cond_false]
    · rw [zIc l (fun x => !nOk x) _ (fun i hi => by rw [List.getElem?_eq_getElem hi]), zAm]
      cases l.all nOk <;> rfl
def cO (l:List zN) (name:ByteArray):Option zJ:=(l.find? fun x=>decide (bs x.Name=bs name)).map (·.Version)
def vlt (a b:zJ):Bool:=decide (a.Major<b.Major)||(decide (a.Major=b.Major)&&(decide (a.Minor<b.Minor)||(decide (a.Minor=b.Minor)&&decide (a.Patch<b.Patch))))
def eS (l:List zN) (n:zU):Bool:=match cO l n.Component with
  | none=>true
  | some v=>vlt v n.From||match cO l n.On with | none=>false | some u=>!vlt u n.At
theorem zGe {l:List zN} (hl:l.length≤1000) (name:ByteArray):qH l name=some (match cO l name with | some v=>(v,true) | none=>(⟨0,0,0⟩,false)):=by
  unfold qH
  refine rW (fun (i:Nat)=>(i:Int)) l.length (fun i=>match l[i]? with | some x=>if decide (bs x.Name=bs name)=true then some (.inl (x.Version,true)) else none | none=>none) (.inr ()) rfl (fun i hi=>?_) ?_ ?_
  · have d0 : decide ((i : Int) < (l.length : Int)) = true := by simp; omega
    simp only [d0,cond_true,yV hi,bnd_some,zR hi (by omega),List.getElem?_eq_getElem hi,zBR]
    cases decide (bs l[i].Name=bs name) <;> rfl
  · have d0 : decide ((l.length : Int) < (l.length : Int)) = false := by simp
    simp only [d0,cond_false]
  · rcases cU l (fun x => decide (bs x.Name = bs name)) (fun _ x => (.inl (x.Version, true) : (zJ × Bool) ⊕ Unit)) (fun i => match l[i]? with | some x => if decide (bs x.Name = bs name) = true then some (.inl (x.Version, true)) else none | none => none) (fun i hi => by rw [List.getElem?_eq_getElem hi]) with ⟨i, hi, h1, h2, h3⟩ | ⟨h1, h2, h3⟩
    · rw [h3]
      simp only [cO,h2]
      rfl
    · rw [h3]
      simp only [cO,h1]
      rfl
theorem zVx (x y:Int):tJ x y=some (if x<y then -1 else if y<x then 1 else 0):=by
  unfold tJ pP
  simp only [bnd_some,bne_self_eq_false,cond_false]
  by_cases h1:x<y
  · simp [h1]
  · by_cases h2 : y < x
    · simp [h1,h2]
    · simp [h1,h2]
theorem zEA (a b:zJ):∃ r,rQ a b=some r∧decide (r<0)=vlt a b:=by
  unfold rQ vH pX vlt
  simp only [bnd_some,zVx]
  by_cases h1:a.Major<b.Major
  · exact ⟨-1,by simp [h1],by simp [h1]⟩
  · by_cases h2 : b.Major < a.Major
    · have : ¬ a.Major = b.Major := by omega
      exact ⟨1,by simp [h1,h2],by simp [h1,this]⟩
    · have e : a.Major = b.Major := by omega
      by_cases h3:a.Minor<b.Minor
      · exact ⟨-1,by simp [h1,h2,h3],by simp [e,h3]⟩
      · by_cases h4 : b.Minor < a.Minor
        · have : ¬ a.Minor = b.Minor := by omega
          exact ⟨1,by simp [h1,h2,h3,h4],by simp [e,h3,this]⟩
        · have e2 : a.Minor = b.Minor := by omega
          by_cases h5:a.Patch<b.Patch
          · exact ⟨-1,by simp [h1,h2,h3,h4,h5],by simp [e,e2,h5]⟩
          · by_cases h6 : b.Patch < a.Patch
            · exact ⟨1,by simp [h1,h2,h3,h4,h5,h6],by simp [e,e2,h5]⟩
            · exact ⟨0,by simp [h1,h2,h3,h4,h5,h6],by simp [e,e2,h5]⟩
theorem zRy {l:List zN} (hl:l.length≤1000) (n:zU):pU l n=some (eS l n):=by
  unfold pU eS
  rw [zGe hl,zGe hl]
  cases h1:cO l n.Component with
  | none=>rfl
  | some v=>
    obtain ⟨r,e1,e2⟩:=zEA v n.From
    simp only [bnd_some,Bool.not_true,cond_false,e1,e2]
    cases h2:vlt v n.From
    · simp only [cond_false, Bool.false_or]
      cases h3:cO l n.On with
      | none=>rfl
      | some u=>
        obtain ⟨r',e3,e4⟩:=zEA u n.At
        simp only [bnd_some,cond_true,e3]
        have:decide (r'≥0)=!vlt u n.At:=by rw [←e4,←decide_not]; congr 1; simp
        rw [this]
    · rfl
def zIP (l:List zN) (needs:List zU) (r:Int × Int):Prop:=
  if tM l=false then r=(0,1) else if jN needs=false then r=(0,2) else r.2=0∧decide (r.1<0)=needs.all (eS l)
theorem gF (l:List zN) (needs:List zU):∃ r,xU l needs=some r∧zIP l needs r:=by
  unfold xU zIP
  rw [zRm,zSH]
  cases h1:tM l
  · exact ⟨(0,1),rfl,by simp⟩
  simp only [bnd_some,Bool.not_true,cond_false,Bool.true_eq_false,if_false]
  cases h2:jN needs
  · exact ⟨(0,2),rfl,by simp⟩
  simp only [bnd_some,Bool.not_true,cond_false,Bool.true_eq_false,if_false]
  have hl:l.length≤8:=by
    unfold tM at h1
    have:=(Bool.and_eq_true_iff.1 h1).1
    simpa using this
  have hn:needs.length≤16:=by
    unfold jN at h2
    have:=(Bool.and_eq_true_iff.1 h2).1
    simpa using this
  rcases cU needs (fun x=>!eS l x) (fun i _=>(.inl ((i:Int),0):(Int × Int) ⊕ Unit)) (fun i=>match needs[i]? with | some x=>if (!eS l x)=true then some (.inl ((i:Int),0)) else none | none=>none) (fun i hi=>by rw [List.getElem?_eq_getElem hi]) with ⟨i,hi,g1,g2,g3⟩ | ⟨g1,g2,g3⟩
  · refine ⟨((i : Int), 0), ?_, rfl, ?_⟩
    · refine rW (fun (i : Nat) => (i : Int)) needs.length (fun i => match needs[i]? with | some x => if (!eS l x) = true then some (.inl ((i : Int), 0)) else none | none => none) (.inr ()) rfl (fun i hi => ?_) ?_ ?_
      · have d0 : decide ((i : Int) < (needs.length : Int)) = true := by simp; omega
        simp only [d0,cond_true,yV hi,bnd_some,zR hi (by omega),List.getElem?_eq_getElem hi,zRy (l:=l) (by omega)]
        cases eS l needs[i] <;> rfl
      · have d0 : decide ((needs.length : Int) < (needs.length : Int)) = false := by simp
        simp only [d0,cond_false]
      · rw [g3]; rfl
    · have : needs.all (eS l) = false := by
        cases hc:needs.all (eS l)
        · rfl
        · have := List.all_eq_true.1 hc _ (List.getElem_mem hi)
          rw [this] at g1; cases g1
      rw [this]
      simp
  · refine ⟨(-1, 0), ?_, rfl, ?_⟩
    · refine rW (fun (i : Nat) => (i : Int)) needs.length (fun i => match needs[i]? with | some x => if (!eS l x) = true then some (.inl ((i : Int), 0)) else none | none => none) (.inr ()) rfl (fun i hi => ?_) ?_ ?_
      · have d0 : decide ((i : Int) < (needs.length : Int)) = true := by simp; omega
        simp only [d0,cond_true,yV hi,bnd_some,zR hi (by omega),List.getElem?_eq_getElem hi,zRy (l:=l) (by omega)]
        cases eS l needs[i] <;> rfl
      · have d0 : decide ((needs.length : Int) < (needs.length : Int)) = false := by simp
        simp only [d0,cond_false]
      · rw [g3]; rfl
    · have : needs.all (eS l) = true := List.all_eq_true.2 fun x hx => by simpa using g2 x hx
      rw [this]
      rfl
def wW (l:List zN):List (List Nat):=l.map fun x=>bs x.Name
def sQ (p:xE):Nat:=
  if (tM p.Now&&tM p.Next)=false then 1 else if jN p.Needs=false then 2 else if wW p.Now≠wW p.Next then 8 else
    if (p.Needs.all (eS p.Now)&&p.Needs.all (eS p.Next))=false then 42 else 0
theorem zLC:tM []=true:=rfl
theorem zKf:jN []=true:=rfl
theorem zDP {l:List zN} (h:tM l=true):l.length≤8:=by
  unfold tM at h
  have:=(Bool.and_eq_true_iff.1 h).1
  simpa using this
theorem zKt {a b:List zN} (ha:a.length≤1000):zY a b=some (decide (wW a=wW b)):=by
  unfold zY
  by_cases hl:a.length=b.length
  · have d1 : ((a.length : Int) != (b.length : Int)) = false := by simp [hl]
    rw [d1]
    simp only [cond_false]
    refine nC (fun (i:Nat)=>(i:Int)) a.length (fun i=>match a[i]?,b[i]? with | some x,some y=>!decide (bs x.Name=bs y.Name) | _,_=>false) (.inl false) (.inr ()) rfl (fun i hi=>?_) ?_ ?_
    · have d0 : decide ((i : Int) < (a.length : Int)) = true := by simp; omega
      have hb:i<b.length:=by omega
      simp only [d0,cond_true,yV hi,yV hb,bnd_some,zR hi (by omega),List.getElem?_eq_getElem hi,List.getElem?_eq_getElem hb,rR,zBR]
      cases decide (bs a[i].Name=bs b[i].Name) <;> rfl
    · have d0 : decide ((a.length : Int) < (a.length : Int)) = false := by simp
      simp only [d0,cond_false]
    · have : (List.range a.length).any (fun i => match a[i]?, b[i]? with | some x, some y => !decide (bs x.Name = bs y.Name) | _, _ => false) = !decide (wW a = wW b) := by
        rw [Bool.eq_iff_iff]
        simp only [List.any_eq_true,List.mem_range,Bool.not_eq_true',decide_eq_false_iff_not]
        constructor
        · rintro ⟨i, hi, h⟩ he
          have hb:i<b.length:=by omega
          rw [List.getElem?_eq_getElem hi,List.getElem?_eq_getElem hb] at h
          simp only [Bool.not_eq_true',decide_eq_false_iff_not] at h
          apply h
          have:(wW a)[i]? =(wW b)[i]?:=by rw [he]
          simpa [wW,hi,hb] using this
        · intro h
          refine Classical.byContradiction fun hn=>h ?_
          apply List.ext_getElem?
          intro i
          by_cases hi:i<a.length
          · have hb : i < b.length := by omega
            refine Classical.byContradiction fun hne=>hn ⟨i,hi,?_⟩
            rw [List.getElem?_eq_getElem hi,List.getElem?_eq_getElem hb]
            simp only [Bool.not_eq_true',decide_eq_false_iff_not]
            intro e
            apply hne
            simp [wW,hi,hb,e]
          · rw [List.getElem?_eq_none (by simp [wW]; omega),List.getElem?_eq_none (by simp [wW]; omega)]
      rw [this]
      cases decide (wW a=wW b) <;> rfl
  · have d1 : ((a.length : Int) != (b.length : Int)) = true := by
      rw [bne_iff_ne]; omega
    rw [d1]
    have:decide (wW a=wW b)=false:=by
      simp only [decide_eq_false_iff_not]
      intro h
      have:=congrArg List.length h
      simp [wW] at this
      exact hl this
    rw [this]
    rfl
theorem zJN (p:xE):sL p=some (sQ p:Int):=by
  unfold sL sQ
  obtain ⟨r1,a1,b1⟩:=gF p.Now []
  obtain ⟨r2,a2,b2⟩:=gF p.Next []
  obtain ⟨r3,a3,b3⟩:=gF [] p.Needs
  obtain ⟨r5,a5,b5⟩:=gF p.Now p.Needs
  obtain ⟨r6,a6,b6⟩:=gF p.Next p.Needs
  simp only [a1,a2,a3,a5,a6,bnd_some]
  unfold zIP at b1 b2 b3 b5 b6
  rw [zKf] at b1 b2
  rw [zLC] at b3
  cases h1:tM p.Now
  · rw [if_pos h1] at b1
    subst b1
    rfl
  rw [if_neg (by rw [h1]; simp)] at b1
  simp only [Bool.true_eq_false,if_false] at b1
  have c1:(r1.2 != 0)=false:=by rw [b1.1]; rfl
  rw [c1]
  cases h2:tM p.Next
  · rw [if_pos h2] at b2
    subst b2
    rfl
  rw [if_neg (by rw [h2]; simp)] at b2
  simp only [Bool.true_eq_false,if_false] at b2
  have c2:(r2.2 != 0)=false:=by rw [b2.1]; rfl
  rw [c2]
  simp only [cond_false,bnd_some,Bool.and_self,Bool.true_eq_false,if_false] at b3 ⊢
  cases h3:jN p.Needs
  · rw [if_pos h3] at b3
    subst b3
    rfl
  rw [if_neg (by rw [h3]; simp)] at b3
  have c3:(r3.2 != 0)=false:=by rw [b3.1]; rfl
  rw [c3]
  simp only [cond_false,Bool.true_eq_false,if_false]
  rw [zKt (by have:=zDP h1; omega)]
  by_cases h4:wW p.Now=wW p.Next
  · simp only [h4, decide_true, bnd_some, Bool.not_true, cond_false, ne_eq, not_true_eq_false, if_false]
    rw [if_neg (by rw [h1]; simp),if_neg (by rw [h3]; simp)] at b5
    rw [if_neg (by rw [h2]; simp),if_neg (by rw [h3]; simp)] at b6
    have e5:decide (r5.1≥0)=!p.Needs.all (eS p.Now):=by rw [←b5.2,←decide_not]; congr 1; simp
    have e6:decide (r6.1≥0)=!p.Needs.all (eS p.Next):=by rw [←b6.2,←decide_not]; congr 1; simp
    rw [e5,e6]
    cases p.Needs.all (eS p.Now) <;> cases p.Needs.all (eS p.Next) <;> rfl
  · simp only [h4, decide_false, bnd_some, Bool.not_false, cond_true, ne_eq, not_false_eq_true, if_true]
    rfl
structure iM (p:xE):Prop where
  now:tM p.Now=true
  next:tM p.Next=true
  needs:jN p.Needs=true
  names:wW p.Now=wW p.Next
  met0:p.Needs.all (eS p.Now)=true
  met1:p.Needs.all (eS p.Next)=true
theorem zMq {p:xE}:sQ p=0↔iM p:=by
  unfold sQ
  constructor
  · intro h
    split at h
    · cases h
    · rename_i h1
      split at h
      · cases h
      · rename_i h2
        split at h
        · cases h
        · rename_i h3
          split at h
          · cases h
          · rename_i h4
            simp only [Bool.and_eq_false_iff,not_or,Bool.not_eq_false] at h1 h4
            exact ⟨h1.1,h1.2,by simpa using h2,Classical.not_not.1 h3,h4.1,h4.2⟩
  · intro h
    rw [if_neg (by rw [h.now,h.next]; simp),if_neg (by rw [h.needs]; simp),if_neg (by simp [h.names]),if_neg (by rw [h.met0,h.met1]; simp)]
theorem iM.len {p:xE} (h:iM p):p.Next.length=p.Now.length:=by
  have:=congrArg List.length h.names
  simpa [wW] using this.symm
theorem iM.le8 {p:xE} (h:iM p):p.Now.length≤8:=zDP h.now
end Go.Proofs.YtplchdlgdjcojaaGreatDoor
end
section
namespace Go.Proofs.YtplchdlgdjcojaaGreatDoor
open Go
set_option linter.unusedSimpArgs false
set_option linter.unusedVariables false
def zCa (n:Nat) (f:Nat→Bool):Nat:=(List.range n).foldl (fun s i=>if f i=true then s|||2 ^ i else s) 0
theorem zAB (n:Nat) (f:Nat→Bool):zCa (n+1) f=if f n=true then zCa n f|||2 ^ n else zCa n f:=by
  simp [zCa,List.range_succ]
theorem zIE (n:Nat) (f:Nat→Bool):zCa n f<2 ^ n:=by
  induction n with
  | zero=>simp [zCa]
  | succ n ih=>
    rw [zAB]
    have h1:zCa n f<2 ^ (n+1):=Nat.lt_trans ih (Nat.pow_lt_pow_right (by omega) (by omega))
    have h2:2 ^ n<2 ^ (n+1):=Nat.pow_lt_pow_right (by omega) (by omega)
    split
    · exact Nat.or_lt_two_pow h1 h2
    · exact h1
theorem zKJ (n:Nat) (f:Nat→Bool) (i:Nat):(zCa n f).testBit i=(decide (i<n)&&f i):=by
  induction n with
  | zero=>simp [zCa]
  | succ n ih=>
    rw [zAB]
    by_cases hi:i=n
    · subst hi
      cases h:f i
      · simp [ih]
      · simp [Nat.testBit_or,ih]
    · have e : decide (i < n + 1) = decide (i < n) := by
        congr 1
        simp only [eq_iff_iff]
        omega
      split
      · rw [Nat.testBit_or, ih, Nat.testBit_two_pow_of_ne (fun h => hi h.symm), e]
        simp
      · rw [ih,e]
theorem zIU (a i:Nat):(a / 2 ^ i)&&&1=if a.testBit i=true then 1 else 0:=by
  rw [Nat.and_one_is_mod,Nat.testBit_eq_decide_div_mod_eq]
  by_cases h:a / 2 ^ i % 2=1
  · simp [h]
  · simp [h]; omega
theorem zNH (a i:Nat):(((((a / 2 ^ i)&&&1:Nat)):Int)==1)=a.testBit i:=by
  rw [zIU]
  cases a.testBit i <;> rfl
theorem zTg (a i:Nat):(((((a / 2 ^ i)&&&1:Nat)):Int)==0)=!a.testBit i:=by
  rw [zIU]
  cases a.testBit i <;> rfl
theorem zTH (a i:Nat):((((a|||2 ^ i:Nat)):Int)==(a:Int))=a.testBit i:=by
  cases h:a.testBit i
  · rw [beq_eq_false_iff_ne]
    intro e
    have:a|||2 ^ i=a:=by exact_mod_cast e
    have h2:(a|||2 ^ i).testBit i=true:=by simp [Nat.testBit_or]
    rw [this,h] at h2
    cases h2
  · rw [beq_iff_eq]
    congr 1
    apply Nat.eq_of_testBit_eq
    intro j
    rw [Nat.testBit_or]
    by_cases hj:i=j
    · subst hj; simp [h]
    · simp [Nat.testBit_two_pow_of_ne hj]
def cK (S F:Nat):Prop:=∀ i,S.testBit i=true→F.testBit i=true
theorem cK.le {S F:Nat} (h:cK S F):S≤F:=by
  have:S|||F=F:=by
    apply Nat.eq_of_testBit_eq
    intro i
    rw [Nat.testBit_or]
    cases hs:S.testBit i
    · simp
    · simp [h i hs]
  rw [←this]
  exact Nat.left_le_or
theorem cK.zero (F:Nat):cK 0 F:=fun i h=>by simp at h
theorem cK.refl (F:Nat):cK F F:=fun i h=>h
theorem cK.or {S F i:Nat} (h:cK S F) (hi:F.testBit i=true):cK (S|||2 ^ i) F:=fun j hj=>by
  rw [Nat.testBit_or] at hj
  by_cases hji:i=j
  · subst hji; exact hi
  · rw [Nat.testBit_two_pow_of_ne hji] at hj
    exact h j (by simpa using hj)
theorem zIm (S i j:Nat):(S|||2 ^ i).testBit j=(S.testBit j||decide (i=j)):=by
  rw [Nat.testBit_or]
  by_cases h:i=j
  · subst h; simp
  · simp [Nat.testBit_two_pow_of_ne h,h]
theorem zNY {S i:Nat} (h:S.testBit i=false):S<S|||2 ^ i:=by
  rcases Nat.lt_or_ge S (S|||2 ^ i) with g | g
  · exact g
  · have e : S ||| 2 ^ i = S := Nat.le_antisymm g Nat.left_le_or
    have:=zIm S i i
    rw [e,h] at this
    simp at this
def cX (p:xE) (i:Nat):Bool:=match p.Now[i]?,p.Next[i]? with
  | some x1,some x2=>!((x1.Version.Major==x2.Version.Major)&&((x1.Version.Minor==x2.Version.Minor)&&((x1.Version.Patch==x2.Version.Patch)&&true)))
  | _,_=>false
def yU (p:xE):Nat:=zCa p.Now.length (cX p)
theorem zWc {i:Nat} (h:i<8):2 ^ i<256:=Nat.pow_lt_pow_right (a:=2) (n:=8) (by omega) h
theorem zXv {i:Nat} (h:i<8):zCK .i64 1 (i:Int)=some ((2 ^ i:Nat):Int):=by
  have:=zQI (a:=1) (s:=i) (by omega) (by rw [Nat.one_mul]; have:=zWc h; omega)
  rw [Nat.one_mul] at this
  exact this
theorem zXt {a i:Nat} (h:i≤64):zFR .i64 (a:Int) (i:Int)=some ((a / 2 ^ i:Nat):Int):=zSt h
theorem or1 {a i:Nat} (ha:a<256) (h:i<8):iOr .i64 (a:Int) ((2 ^ i:Nat):Int)=((a|||2 ^ i:Nat):Int):=zCJ (a:=a) (b:=2 ^ i) (by omega) (by have:=zWc h; omega)
theorem zWl {a:Nat} (h:a<4611686018427387904):rN .i64 (a:Int) 1=((a&&&1:Nat):Int):=zRE (b:=1) h (by omega)
theorem zXD {a i:Nat} (ha:a<256) (h:i<8):a|||2 ^ i<256:=Nat.or_lt_two_pow (n:=8) ha (zWc h)
theorem zAD {n:Nat} {f:Nat→Bool} (h:n≤8):zCa n f<256:=Nat.lt_of_lt_of_le (zIE n f) (Nat.pow_le_pow_right (by omega) h)
theorem zSd {p:xE} (h:p.Now.length≤8) (hl:p.Next.length=p.Now.length):qO p=some (yU p:Int):=by
  unfold qO yU
  refine xT (fun (i:Nat)=>(((zCa i (cX p):Nat):Int),(i:Int))) p.Now.length _ rfl (fun i hi=>?_) ?_ rfl
  · have d0 : decide ((i : Int) < (p.Now.length : Int)) = true := by simp; omega
    have hb:i<p.Next.length:=by omega
    simp only [d0,cond_true,yV hi,yV hb,bnd_some,zR hi (by omega),zXv (i:=i) (by omega),or1 (a:=zCa i (cX p)) (zAD (by omega)) (i:=i) (by omega)]
    rw [zAB]
    have e:cX p i=!((p.Now[i].Version.Major==p.Next[i].Version.Major)&&((p.Now[i].Version.Minor==p.Next[i].Version.Minor)&&((p.Now[i].Version.Patch==p.Next[i].Version.Patch)&&true))):=by
      unfold cX
      rw [List.getElem?_eq_getElem hi,List.getElem?_eq_getElem hb]
    rw [←e]
    cases cX p i <;> rfl
  · have d0 : decide ((p.Now.length : Int) < (p.Now.length : Int)) = false := by simp
    simp only [d0,cond_false]
def stU (p:xE) (S i:Nat):List zN:=p.Now.mapIdx fun j a=>if (decide (j<i)&&S.testBit j)=true then (p.Next[j]?).getD a else a
def kA (p:xE) (S:Nat):List zN:=stU p S p.Now.length
@[simp] theorem stU_len (p:xE) (S i:Nat):(stU p S i).length=p.Now.length:=by simp [stU]
theorem zCh {p:xE} (hl:p.Next.length=p.Now.length) {S i j:Nat} (hj:j<p.Now.length):(stU p S i)[j]'(by simpa using hj)=if (decide (j<i)&&S.testBit j)=true then p.Next[j] else p.Now[j]:=by
  simp only [stU,List.getElem_mapIdx]
  have:j<p.Next.length:=by omega
  rw [List.getElem?_eq_getElem this]
  rfl
theorem zRZ (p:xE) (S:Nat):stU p S 0=p.Now:=by
  apply List.ext_getElem (by simp)
  intro j h1 h2
  simp [stU]
theorem zSS {p:xE} (hl:p.Next.length=p.Now.length) {S i:Nat} (hi:i<p.Now.length):stU p S (i+1)=if S.testBit i=true then (stU p S i).set i p.Next[i] else stU p S i:=by
  split
  · rename_i hb
    apply List.ext_getElem (by simp)
    intro j h1 h2
    have hj:j<p.Now.length:=by simpa using h1
    rw [zCh hl hj]
    by_cases hji:j=i
    · subst hji
      simp [hb]
    · rw [List.getElem_set_ne (fun h => hji h.symm), zCh hl hj]
      have:decide (j<i+1)=decide (j<i):=by
        congr 1
        simp only [eq_iff_iff]
        omega
      rw [this]
  · rename_i hb
    apply List.ext_getElem (by simp)
    intro j h1 h2
    have hj:j<p.Now.length:=by simpa using h1
    rw [zCh hl hj,zCh hl hj]
    by_cases hji:j=i
    · subst hji
      simp [hb]
    · have : decide (j < i + 1) = decide (j < i) := by
        congr 1
        simp only [eq_iff_iff]
        omega
      rw [this]
theorem zXE {α:Type} {xs:List α} {i:Nat} {y:α} (h:i<xs.length):sW xs (i:Int) y=some (xs.set i y):=by
  unfold sW
  rw [if_pos ⟨by omega,by omega⟩]
  simp
theorem zQj {p:xE} (h:p.Now.length≤8) (hl:p.Next.length=p.Now.length) {S:Nat} (hS:S<256):pA p (S:Int)=some (kA p S):=by
  unfold pA xJ
  rw [uT (by simp; omega) (by simp; omega)]
  simp only [List.nil_append,bnd_some]
  refine xT (fun (i:Nat)=>((i:Int),stU p S i)) p.Now.length _ (by rw [zRZ]; rfl) (fun i hi=>?_) ?_ rfl
  · have d0 : decide ((i : Int) < (p.Now.length : Int)) = true := by simp; omega
    have hb:i<p.Next.length:=by omega
    have hst:i<(stU p S i).length:=by simpa using hi
    have hd:S / 2 ^ i<4611686018427387904:=Nat.lt_of_le_of_lt (Nat.div_le_self _ _) (by omega)
    simp only [d0,cond_true,zXt (a:=S) (i:=i) (by omega),bnd_some,zWl hd,zNH,yV hb,yV hst,zXE hst,zR hi (by omega),zSS hl hi]
    cases S.testBit i <;> rfl
  · have d0 : decide ((p.Now.length : Int) < (p.Now.length : Int)) = false := by simp
    simp only [d0,cond_false,kA]
theorem iM.name {p:xE} (h:iM p) {i:Nat} (hi:i<p.Now.length):(p.Next[i]'(by rw [h.len]; exact hi)).Name=p.Now[i].Name:=by
  have h2:i<p.Next.length:=by rw [h.len]; exact hi
  have:(wW p.Now)[i]? =(wW p.Next)[i]?:=by rw [h.names]
  simp [wW,hi,h2] at this
  exact (zQi this).symm
theorem zEQ {l:List zN} (h:tM l=true) {i:Nat} (hi:i<l.length):cOk l i=true:=by
  unfold tM at h
  exact List.all_eq_true.1 (Bool.and_eq_true_iff.1 h).2 i (by simpa using hi)
theorem zGd {p:xE} (h:iM p) {S i:Nat} (hi:i<p.Now.length):(kA p S)[i]'(by simpa [kA] using hi)=if S.testBit i=true then p.Next[i]'(by rw [h.len]; exact hi) else p.Now[i]:=by
  unfold kA
  rw [zCh h.len hi]
  simp [hi]
theorem zDH {p:xE} (h:iM p) {S i:Nat} (hi:i<p.Now.length):((kA p S)[i]'(by simpa [kA] using hi)).Name=p.Now[i].Name:=by
  rw [zGd h hi]
  split
  · exact h.name hi
  · rfl
theorem zJG {p:xE} (h:iM p) (S:Nat):tM (kA p S)=true:=by
  unfold tM
  have hlen:(kA p S).length=p.Now.length:=by simp [kA]
  rw [hlen]
  refine Bool.and_eq_true_iff.2 ⟨by simpa using h.le8,List.all_eq_true.2 fun i hi=>?_⟩
  have hi:i<p.Now.length:=by simpa using hi
  have h1:=zEQ h.now hi
  have h2:=zEQ h.next (i:=i) (by rw [h.len]; exact hi)
  have hs:i<(kA p S).length:=by rw [hlen]; exact hi
  have hn:i<p.Next.length:=by rw [h.len]; exact hi
  unfold cOk at h1 h2 ⊢
  rw [List.getElem?_eq_getElem hs]
  rw [List.getElem?_eq_getElem hi] at h1
  rw [List.getElem?_eq_getElem hn] at h2
  simp only [zDH h hi,Bool.and_eq_true] at h1 h2 ⊢
  refine ⟨⟨h1.1.1,?_⟩,?_⟩
  · rw [zGd h hi]
    split
    · exact h2.1.2
    · exact h1.1.2
  · have h3 := h1.2
    by_cases h0:i=0
    · simp [h0]
    · have hp : i - 1 < p.Now.length := by omega
      have hps:i - 1<(kA p S).length:=by omega
      rw [List.getElem?_eq_getElem hp] at h3
      rw [List.getElem?_eq_getElem hps]
      simp only [zDH h hp]
      exact h3
def qJ (p:xE) (S:Nat):Bool:=p.Needs.all (eS (kA p S))
theorem zSZ {p:xE} (h:iM p) {S:Nat} (hS:S<256):tN p (S:Int)=some (qJ p S):=by
  unfold tN
  obtain ⟨r,a,b⟩:=gF (kA p S) p.Needs
  rw [zQj h.le8 h.len hS]
  simp only [bnd_some,a]
  unfold zIP at b
  rw [if_neg (by rw [zJG h]; simp),if_neg (by rw [h.needs]; simp)] at b
  have e:(r.2==0)=true:=by rw [b.1]; rfl
  rw [e]
  simp only [cond_true,bnd_some,b.2]
  rfl
theorem zJB {p:xE} (i:Nat):(yU p).testBit i=(decide (i<p.Now.length)&&cX p i):=zKJ _ _ _
section
variable (n F:Nat) (G:Nat→Bool)
def iV (S i:Nat):Bool:=F.testBit i&&(!S.testBit i&&G (S|||2 ^ i))
def zBi:Nat→Nat→Option (List Nat)
  | 0,_=>none
  | k+1,S=>if S=F then some [] else (List.range n).findSome? fun i=>if iV F G S i=true then (zBi k (S|||2 ^ i)).map (i:: ·) else none
def lst (S:Nat):Option (List Nat):=zBi n F G (F - S+1) S
def aD:Nat→List Nat→Prop
  | S, []=>S=F
  | S,i::l=>iV F G S i=true∧aD (S|||2 ^ i) l
theorem zKH {α β:Type} {l:List α} {f g:α→Option β} (h:∀ x∈l,f x=g x):l.findSome? f=l.findSome? g:=by
  induction l with
  | nil=>rfl
  | cons x r ih=>
    rw [List.findSome?_cons,List.findSome?_cons,h x (by simp),ih fun y hy=>h y (by simp [hy])]
theorem kR {F:Nat} {G:Nat→Bool} {S i:Nat} (h:iV F G S i=true):F.testBit i=true∧S.testBit i=false∧G (S|||2 ^ i)=true:=by
  unfold iV at h
  simpa using h
theorem zGS (k k' S:Nat) (hs:cK S F) (h1:F - S<k) (h2:F - S<k'):zBi n F G k S=zBi n F G k' S:=by
  induction k generalizing k' S with
  | zero=>omega
  | succ k ih=>
    cases k' with
    | zero=>omega
    | succ k'=>
      unfold zBi
      by_cases he:S=F
      · rw [if_pos he,if_pos he]
      · rw [if_neg he, if_neg he]
        refine zKH fun i _=>?_
        by_cases hst:iV F G S i=true
        · rw [if_pos hst, if_pos hst]
          obtain ⟨a,b,_⟩:=kR hst
          have h3:=zNY b
          have h4:=(hs.or a).le
          rw [ih k' (S|||2 ^ i) (hs.or a) (by omega) (by omega)]
        · rw [if_neg hst,if_neg hst]
theorem zFn {S:Nat} (hs:cK S F) (hne:S≠F):lst n F G S=(List.range n).findSome? fun i=>if iV F G S i=true then (lst n F G (S|||2 ^ i)).map (i:: ·) else none:=by
  have hle:=hs.le
  unfold lst
  conv=>lhs; unfold zBi
  rw [if_neg hne]
  refine zKH fun i _=>?_
  by_cases hst:iV F G S i=true
  · rw [if_pos hst, if_pos hst]
    obtain ⟨a,b,_⟩:=kR hst
    have h3:=zNY b
    have h4:=(hs.or a).le
    rw [zGS n F G _ (F - (S|||2 ^ i)+1) _ (hs.or a) (by omega) (by omega)]
  · rw [if_neg hst,if_neg hst]
theorem zFh:lst n F G F=some []:=by
  unfold lst zBi
  rw [if_pos rfl]
theorem zLe {β:Type} {f:Nat→Option β} {m i:Nat} {v:β} (hi:i<m) (h:f i=some v) (hn:∀ j,j<i→f j=none):(List.range m).findSome? f=some v:=by
  induction m with
  | zero=>omega
  | succ m ih=>
    rw [List.range_succ,List.findSome?_append]
    by_cases hm:i=m
    · subst hm
      have:(List.range i).findSome? f=none:=List.findSome?_eq_none_iff.2 fun x hx=>hn x (by simpa using hx)
      rw [this]
      simp [h]
    · rw [ih (by omega)]
      rfl
theorem zUq {β:Type} {f:Nat→Option β} {m:Nat} (hn:∀ j,j<m→f j=none):(List.range m).findSome? f=none:=
  List.findSome?_eq_none_iff.2 fun x hx=>hn x (by simpa using hx)
theorem zTG {β:Type} {f:Nat→Option β} {m:Nat} {v:β} (h:(List.range m).findSome? f=some v):∃ i,i<m∧f i=some v∧∀ j,j<i→f j=none:=by
  induction m with
  | zero=>simp at h
  | succ m ih=>
    rw [List.range_succ,List.findSome?_append] at h
    cases h1:(List.range m).findSome? f with
    | some u=>
      rw [h1] at h
      simp at h
      subst h
      obtain ⟨i,a,b,c⟩:=ih h1
      exact ⟨i,by omega,b,c⟩
    | none=>
      rw [h1] at h
      simp at h
      exact ⟨m,by omega,h,fun j hj=>List.findSome?_eq_none_iff.1 h1 j (by simpa using hj)⟩
theorem zKu (P:Nat→Prop) (h:∀ S,cK S F→(∀ i,iV F G S i=true→P (S|||2 ^ i))→P S):∀ S,cK S F→P S:=by
  have:∀ k S,F - S<k→cK S F→P S:=by
    intro k
    induction k with
    | zero=>intro S h1; omega
    | succ k ih=>
      intro S h1 hs
      refine h S hs fun i hst=>?_
      obtain ⟨a,b,_⟩:=kR hst
      have h3:=zNY b
      have h4:=(hs.or a).le
      exact ih _ (by omega) (hs.or a)
  exact fun S hs=>this (F - S+1) S (by omega) hs
theorem zNh (S:Nat) (hs:cK S F):∀ l,lst n F G S=some l→aD F G S l:=by
  refine zKu F G (fun S=>∀ l,lst n F G S=some l→aD F G S l) (fun S hs ih l hl=>?_) S hs
  by_cases he:S=F
  · subst he
    rw [zFh] at hl
    injection hl with hl
    subst hl
    rfl
  · rw [zFn n F G hs he] at hl
    obtain ⟨i,_,h1,_⟩:=zTG hl
    split at h1
    · rename_i hst
      rw [Option.map_eq_some_iff] at h1
      obtain ⟨r,h2,rfl⟩:=h1
      exact ⟨hst,ih i hst r h2⟩
    · cases h1
theorem zWG {F n i:Nat} (hF:F<2 ^ n) (h:F.testBit i=true):i<n:=by
  rcases Nat.lt_or_ge i n with g | g
  · exact g
  · have := Nat.testBit_lt_two_pow (Nat.lt_of_lt_of_le hF (Nat.pow_le_pow_right (by omega) g))
    rw [this] at h; cases h
end
theorem zPp (k:IntKind) (a b:Int):(yB k).eq a b=true↔a=b:=by
  show (a==b)=true↔a=b
  exact beq_iff_eq
def zAy (n F:Nat) (G:Nat→Bool) (d:List (Int × Bool)):Prop:=∀ T:Nat,cK T F→(vM (yB .i64).eq d (T:Int)).getD false=true→lst n F G T=none
theorem zNP {p:xE} (h:iM p):∀ (fuel S:Nat) (d:List (Int × Bool)) (o:List Int),cK S (yU p)→yU p - S<fuel→o.length+(yU p - S)≤300→zAy p.Now.length (yU p) (qJ p) d→
    ∃ d',zAy p.Now.length (yU p) (qJ p) d'∧zAv (yU p:Int) p fuel d (S:Int) o=some (d',match lst p.Now.length (yU p) (qJ p) S with | some l=>(o++iz l,true) | none=>([],false))
  | 0,S,d,o,_,hf,_,_=>by omega
  | fuel+1,S,d,o,hs,hf,ho,hd=>by
    have hF:yU p<256:=zAD h.le8
    have hle:=hs.le
    show ∃ d',_∧gM (yU p:Int) p (zAv (yU p:Int) p fuel) d (S:Int) o=_
    unfold gM
    by_cases he:S=yU p
    · subst he
      have e:((yU p:Int)==(yU p:Int))=true:=by simp
      rw [e,zFh]
      exact ⟨d,hd,by simp⟩
    · have e : ((S : Int) == (yU p : Int)) = false := by
        rw [beq_eq_false_iff_ne]; exact_mod_cast he
      rw [e]
      simp only [cond_false]
      have hstep:=zFn p.Now.length (yU p) (qJ p) hs he
      have key:∃ r,bnd (yE (τ:=(List (Int × Bool) × (List Int × Bool)) ⊕ (List (Int × Bool))) (fun (s1:Int × (List (Int × Bool)))=>bif decide (s1.1<(p.Now.length:Int)) then
          bnd (zCK .i64 1 s1.1) fun q1=>bnd (zFR .i64 (yU p:Int) s1.1) fun q2=>
          bif ((rN .i64 q2 1)==0) then some (.next (IntKind.wrap .i64 (s1.1+1),s1.2)) else
          bif ((iOr .i64 (S:Int) q1)==(S:Int)) then some (.next (IntKind.wrap .i64 (s1.1+1),s1.2)) else
          bif (vM (yB .i64).eq s1.2 (iOr .i64 (S:Int) q1)).getD false then some (.next (IntKind.wrap .i64 (s1.1+1),s1.2)) else
          bnd (tN p (iOr .i64 (S:Int) q1)) fun r1=>bif !r1 then some (.next (IntKind.wrap .i64 (s1.1+1),s1.2)) else
          bnd (app 8 o [s1.1]) fun l1=>bnd (zAv (yU p:Int) p fuel s1.2 (iOr .i64 (S:Int) q1) l1) fun r2=>
          bif r2.2.2 then some (.done (.inl (r2.1,r2.2.1,true))) else some (.next (IntKind.wrap .i64 (s1.1+1),r2.1))
          else some (.done (.inr s1.2))) (0,d)) (fun o2=>wS o2 fun o3=>some (oW (yB .i64).eq o3 (S:Int) true, [],false))=some r∧
          (zAy p.Now.length (yU p) (qJ p) r.1∧r.2=match lst p.Now.length (yU p) (qJ p) S with | some l=>(o++iz l,true) | none=>([],false)):=by
        refine cE (fun s=>∃ i:Nat,i≤p.Now.length∧s.1=(i:Int)∧zAy p.Now.length (yU p) (qJ p) s.2∧∀ j,j<i→(if iV (yU p) (qJ p) S j=true then (lst p.Now.length (yU p) (qJ p) (S|||2 ^ j)).map (j:: ·) else none)=none)
          (fun s=>p.Now.length - s.1.toNat)
          (fun t=>match t with
            | .inl r=>zAy p.Now.length (yU p) (qJ p) r.1∧∃ l,lst p.Now.length (yU p) (qJ p) S=some l∧r.2=(o++iz l,true)
            | .inr d'=>zAy p.Now.length (yU p) (qJ p) d'∧lst p.Now.length (yU p) (qJ p) S=none) ⟨0,by omega,rfl,hd,fun j hj=>by omega⟩ (fun s hI=>?_) (fun t ht=>?_)
        · obtain ⟨i, hi, h1, h2, h3⟩ := hI
          obtain ⟨s1,s2⟩:=s
          simp only at h1 h2
          subst h1
          by_cases hin:i<p.Now.length
          · have hi8 : i < 8 := by have := h.le8; omega
            have d0:decide ((i:Int)<(p.Now.length:Int))=true:=by simp; omega
            have hdv:yU p / 2 ^ i<4611686018427387904:=Nat.lt_of_le_of_lt (Nat.div_le_self _ _) (by omega)
            have hS:S<256:=by omega
            have hw:=zR hin (by have:=h.le8; omega)
            have hnext:∀ d',zAy p.Now.length (yU p) (qJ p) d'→(if iV (yU p) (qJ p) S i=true then (lst p.Now.length (yU p) (qJ p) (S|||2 ^ i)).map (i:: ·) else none)=none→
                ∃ i':Nat,i'≤p.Now.length∧(((i+1:Nat):Int),d').1=(i':Int)∧zAy p.Now.length (yU p) (qJ p) (((i+1:Nat):Int),d').2∧∀ j,j<i'→(if iV (yU p) (qJ p) S j=true then (lst p.Now.length (yU p) (qJ p) (S|||2 ^ j)).map (j:: ·) else none)=none:=
              fun d' hd' hno=>⟨i+1,by omega,rfl,hd',fun j hj=>by
                by_cases hji:j=i
                · subst hji; exact hno
                · exact h3 j (by omega)⟩
            have hmu:∀ d':List (Int × Bool),p.Now.length - (((i+1:Nat):Int),d').1.toNat<p.Now.length - ((i:Int),s2).1.toNat:=fun d'=>by
              show p.Now.length - ((i+1:Nat):Int).toNat<p.Now.length - ((i:Nat):Int).toNat
              omega
            simp only [d0,cond_true,zXv hi8,zXt (a:=yU p) (i:=i) (by omega),bnd_some,zWl hdv,zTg,or1 hS hi8,zTH,hw]
            cases hb1:(yU p).testBit i
            · refine .inl ⟨_, rfl, hnext s2 h2 ?_, hmu s2⟩
              rw [if_neg]
              unfold iV
              simp [hb1]
            cases hb2:S.testBit i
            · simp only [Bool.not_true, cond_false]
              have hor:=zXD hS hi8
              have hsub:=hs.or hb1
              cases hb3:(vM (yB .i64).eq s2 (((S|||2 ^ i:Nat)):Int)).getD false
              · simp only [cond_false, zSZ h hor, bnd_some]
                cases hb4:qJ p (S|||2 ^ i)
                · refine .inl ⟨_, rfl, hnext s2 h2 ?_, hmu s2⟩
                  rw [if_neg]
                  unfold iV
                  simp [hb4]
                · simp only [Bool.not_true, cond_false]
                  have hlt:=zNY hb2
                  have hle2:=hsub.le
                  have hst:iV (yU p) (qJ p) S i=true:=by unfold iV; simp [hb1,hb2,hb4]
                  rw [uT (by simp; omega) (by simp; omega)]
                  simp only [bnd_some]
                  obtain ⟨d',hd',hm⟩:=zNP h fuel (S|||2 ^ i) s2 (o++ [(i:Int)]) hsub (by omega) (by simp; omega) h2
                  rw [hm]
                  simp only [bnd_some]
                  cases hl:lst p.Now.length (yU p) (qJ p) (S|||2 ^ i) with
                  | none=>
                    refine .inl ⟨_,rfl,hnext d' hd' ?_,hmu d'⟩
                    rw [if_pos hst,hl]
                    rfl
                  | some l=>
                    refine .inr ⟨_,rfl,hd',i::l,?_,?_⟩
                    · rw [hstep]
                      refine zLe hin ?_ h3
                      rw [if_pos hst,hl]
                      rfl
                    · simp [iz]
              · refine .inl ⟨_, rfl, hnext s2 h2 ?_, hmu s2⟩
                have:=h2 _ hsub hb3
                rw [this]
                simp
            · refine .inl ⟨_, rfl, hnext s2 h2 ?_, hmu s2⟩
              rw [if_neg]
              unfold iV
              simp [hb2]
          · have d0 : decide ((i : Int) < (p.Now.length : Int)) = false := by simp; omega
            rw [d0]
            refine .inr ⟨_,rfl,h2,?_⟩
            rw [hstep]
            exact zUq fun j hj=>h3 j (by omega)
        · rcases t with r | d'
          · obtain ⟨h1, l, h2, h3⟩ := ht
            refine ⟨r,rfl,h1,?_⟩
            rw [h2,h3]
          · obtain ⟨h1, h2⟩ := ht
            refine ⟨_,rfl,?_,by rw [h2]⟩
            intro T hT hg
            rw [zDx (zPp .i64)] at hg
            by_cases hTS:(T:Int)=(S:Int)
            · have : T = S := by exact_mod_cast hTS
              subst this
              exact h2
            · rw [if_neg hTS] at hg
              exact h1 T hT hg
      obtain ⟨r,k1,k2,k3⟩:=key
      refine ⟨r.1,k2,?_⟩
      rw [k1,←k3]
def eU (p:xE):Option (List Nat):=lst p.Now.length (yU p) (qJ p) 0
theorem zLg (p:xE):uS p=some (if sQ p=0 then (match eU p with | some l=>(iz l,0) | none=>([],41)) else ([],(sQ p:Int))):=by
  unfold uS
  rw [zJN]
  simp only [bnd_some]
  by_cases hv:sQ p=0
  · have h := zMq.1 hv
    have e:((sQ p:Int) != 0)=false:=by rw [hv]; rfl
    rw [e,if_pos hv,zSd h.le8 h.len]
    simp only [cond_false,bnd_some]
    have hF:yU p<256:=zAD h.le8
    obtain ⟨d',_,hm⟩:=zNP h aX 0 [] [] (cK.zero _) (by unfold aX; omega) (by simp; omega) (fun T _ hg=>by simp [vM] at hg)
    have hm':zAv (yU p:Int) p aX [] 0 []=_:=hm
    rw [hm']
    simp only [bnd_some]
    unfold eU
    cases lst p.Now.length (yU p) (qJ p) 0 <;> simp
  · have e : ((sQ p : Int) != 0) = true := by
      rw [bne_iff_ne]; exact_mod_cast hv
    rw [e,if_neg hv]
    rfl
end Go.Proofs.YtplchdlgdjcojaaGreatDoor
end
section
namespace Go.Proofs.YtplchdlgdjcojaaGreatDoor
open Go
set_option linter.unusedSimpArgs false
set_option linter.unusedVariables false
def zUF:zJ:=⟨1,0,0⟩
def eI:zJ:=⟨2,0,0⟩
def exA:ByteArray:=⟨#[97]⟩
def exB:ByteArray:=⟨#[98]⟩
def exP (needs:List zU):xE:=⟨[⟨exA,zUF⟩,⟨exB,zUF⟩], [⟨exA,eI⟩,⟨exB,eI⟩],needs⟩
set_option maxRecDepth 20000 in
theorem ex1:sQ (exP [⟨exA,eI,exB,eI⟩])=0∧eU (exP [⟨exA,eI,exB,eI⟩])=some [1,0]:=by decide
set_option maxRecDepth 20000 in
theorem ex2:sQ (exP [⟨exA,eI,exB,eI⟩,⟨exB,eI,exA,eI⟩])=0∧eU (exP [⟨exA,eI,exB,eI⟩,⟨exB,eI,exA,eI⟩])=none:=by decide
def xZ (n F:Nat):List Nat:=(List.range n).filter F.testBit
theorem zIL {F i:Nat} (hF:F<2 ^ i):∀ d,xZ (i+d) F=xZ i F
  | 0=>rfl
  | d+1=>by
    have ih:=zIL hF d
    unfold xZ at*
    rw [show i+(d+1)=(i+d)+1 by omega,List.range_succ,List.filter_append,ih]
    have:F.testBit (i+d)=false:=Nat.testBit_lt_two_pow (Nat.lt_of_lt_of_le hF (Nat.pow_le_pow_right (by omega) (by omega)))
    simp [this]
theorem zTY {F i n:Nat} (hi:F<2 ^ i) (hn:F<2 ^ n):xZ i F=xZ n F:=by
  rcases Nat.le_total i n with g | g
  · rw [show n=i+(n - i) by omega,zIL hi]
  · rw [show i=n+(i - n) by omega,zIL hn]
theorem hZ (F i:Nat):xZ (i+1) F=if F.testBit i=true then xZ i F++ [i] else xZ i F:=by
  unfold xZ
  rw [List.range_succ,List.filter_append]
  cases h:F.testBit i <;> simp [h]
theorem zSx (p:xE):qZ p=some (if sQ p=0 then iz (xZ p.Now.length (yU p)) else []):=by
  unfold qZ
  rw [zJN]
  simp only [bnd_some]
  by_cases hv:sQ p=0
  · have h := zMq.1 hv
    have e:((sQ p:Int) != 0)=false:=by rw [hv]; rfl
    rw [e,if_pos hv,zSd h.le8 h.len]
    simp only [cond_false,bnd_some]
    have hF:yU p<256:=zAD h.le8
    have hFn:yU p<2 ^ p.Now.length:=zIE _ _
    have key:∃ r,bnd (yE (τ:=List Int) (fun (s1:List Int × Int × Int)=>bif decide (s1.2.2>0) then (bif ((rN .i64 s1.2.2 1)==1) then (bnd (app 8 s1.1 [s1.2.1]) fun l1=>some (.next (l1,IntKind.wrap .i64 (s1.2.1+1),uB .i64 s1.2.2 1))) else (some (.next (s1.1,IntKind.wrap .i64 (s1.2.1+1),uB .i64 s1.2.2 1)))) else (some (.done s1.1))) ([],0,(yU p:Int))) (fun o1=>some o1)=some r∧r=iz (xZ p.Now.length (yU p)):=by
      refine cE (fun s=>∃ i:Nat,i≤8∧s=(iz (xZ i (yU p)),(i:Int),((yU p / 2 ^ i:Nat):Int))) (fun s=>9 - s.2.1.toNat) (fun t=>t=iz (xZ p.Now.length (yU p))) ⟨0,by omega,by simp [xZ]⟩ (fun s hI=>?_) (fun t ht=>⟨t,rfl,ht⟩)
      obtain ⟨i,hi,rfl⟩:=hI
      have hd1:yU p / 2 ^ i<4611686018427387904:=Nat.lt_of_le_of_lt (Nat.div_le_self _ _) (by omega)
      by_cases hz:yU p / 2 ^ i=0
      · have e1 : decide (((yU p / 2 ^ i : Nat) : Int) > 0) = false := by rw [hz]; rfl
        simp only [e1,cond_false]
        refine .inr ⟨_,rfl,?_⟩
        have hlt:yU p<2 ^ i:=by
          rcases Nat.lt_or_ge (yU p) (2 ^ i) with g | g
          · exact g
          · have := Nat.div_pos g (Nat.two_pow_pos i)
            omega
        rw [zTY hlt hFn]
      · have e1 : decide (((yU p / 2 ^ i : Nat) : Int) > 0) = true := decide_eq_true (Int.natCast_pos.2 (Nat.pos_of_ne_zero hz))
        have hi8:i<8:=by
          rcases Nat.lt_or_ge i 8 with g | g
          · exact g
          · have : i = 8 := by omega
            subst this
            have:yU p / 2 ^ 8=0:=Nat.div_eq_of_lt (by omega)
            omega
        have hb:(rN .i64 ((yU p / 2 ^ i:Nat):Int) 1==1)=(yU p).testBit i:=by rw [zWl hd1,zNH]
        have hsh:uB .i64 ((yU p / 2 ^ i:Nat):Int) 1=((yU p / 2 ^ (i+1):Nat):Int):=by
          have:=dC (k:=.i64) (a:=yU p / 2 ^ i) (s:=1) (by decide)
          rw [show ((1:Nat):Int)=1 from rfl] at this
          rw [this,Nat.div_div_eq_div_mul,←Nat.pow_add]
        have hw:=zR hi8 (by omega)
        have hap:app 8 (iz (xZ i (yU p))) [(i:Int)]=some (iz (xZ i (yU p)++ [i])):=by
          have hlen:(xZ i (yU p)).length≤8:=Nat.le_trans (List.length_filter_le _ _) (by simp; omega)
          rw [uT (by simp; omega) (by simp; omega)]
          simp [iz]
        simp only [e1,cond_true,hb,hsh,hw]
        refine .inl ?_
        cases hbi:(yU p).testBit i
        · refine ⟨_, rfl, ⟨i + 1, by omega, ?_⟩, ?_⟩
          · rw [hZ,hbi]; rfl
          · show 9 - ((i + 1 : Nat) : Int).toNat < 9 - ((i : Nat) : Int).toNat
            omega
        · simp only [cond_true, hap, bnd_some]
          refine ⟨_,rfl,⟨i+1,by omega,?_⟩,?_⟩
          · rw [hZ,hbi]; rfl
          · show 9 - ((i + 1 : Nat) : Int).toNat < 9 - ((i : Nat) : Int).toNat
            omega
    obtain ⟨r,k1,k2⟩:=key
    rw [k1,k2]
  · have e : ((sQ p : Int) != 0) = true := by
      rw [bne_iff_ne]; exact_mod_cast hv
    rw [e,if_neg hv]
    rfl
theorem zKC {F:Nat} {G:Nat→Bool} {n:Nat} (hF:F<2 ^ n):∀ {l:List Nat} {S:Nat},aD F G S l→l.length+(xZ n S).length=(xZ n F).length
  | [],S,h=>by
    have:S=F:=h
    subst this; simp
  | i::l,S,h=>by
    obtain ⟨hst,hp⟩:=h
    obtain ⟨a,b,_⟩:=kR hst
    have hin:=zWG hF a
    have ih:=zKC hF hp
    have key:(xZ n (S|||2 ^ i)).length=(xZ n S).length+1:=by
      have:∀ m,(xZ m (S|||2 ^ i)).length=(xZ m S).length+(if i<m then 1 else 0):=by
        intro m
        induction m with
        | zero=>simp [xZ]
        | succ m ihm=>
          rw [hZ,hZ,zIm]
          by_cases hm:i=m
          · subst hm
            simp [b,ihm]
          · simp only [hm, decide_false, Bool.or_false]
            cases S.testBit m
            · simp only [Bool.false_eq_true, if_false, ihm]
              by_cases h1:i<m
              · rw [if_pos h1,if_pos (by omega)]
              · rw [if_neg h1,if_neg (by omega)]
            · simp only [if_true, List.length_append, ihm, List.length_singleton]
              by_cases h1:i<m
              · rw [if_pos h1,if_pos (by omega)]
              · rw [if_neg h1,if_neg (by omega)]
      rw [this n,if_pos hin]
    rw [key] at ih
    rw [List.length_cons]
    omega
theorem zHS {F:Nat} {G:Nat→Bool}:∀ {l:List Nat} {S:Nat},aD F G S l→∀ i∈l,F.testBit i=true
  | [],S,h,i,hi=>by cases hi
  | j::l,S,h,i,hi=>by
    obtain ⟨hst,hp⟩:=h
    rcases List.mem_cons.1 hi with rfl | hi
    · exact (kR hst).1
    · exact zHS hp i hi
end Go.Proofs.YtplchdlgdjcojaaGreatDoor
end
section
namespace Go.Proofs.YtplchdlgdjcojaaGreatDoor
open Go
set_option linter.unusedSimpArgs false
set_option linter.unusedVariables false
theorem fS {σ τ ρ:Type} {m:σ→Option (sX σ τ)} {s0:σ} {k:τ→Option ρ} {R:ρ→Prop} (I:σ→Prop) (μ:σ→Nat) (Q:τ→Prop) (h0:I s0)
    (h:∀ s,I s→∃ r,m s=some r∧match r with | .next s'=>I s'∧μ s'<μ s | .done t=>Q t) (hk:∀ t,Q t→∃ r,k t=some r∧R r):∃ r,bnd (yE m s0) k=some r∧R r:=by
  refine cE I μ Q h0 (fun s hI=>?_) hk
  obtain ⟨r,h1,h2⟩:=h s hI
  cases r with
  | next s'=>exact .inl ⟨s',h1,h2.1,h2.2⟩
  | done t=>exact .inr ⟨t,h1,h2⟩
def lL:List ByteArray:= [⟨#[98,105,111,115]⟩,⟨#[99,112,108,100]⟩,⟨#[109,101]⟩,⟨#[112,115,117]⟩,⟨#[120,45,49]⟩,⟨#[122,122]⟩]
theorem zSs:jH=some lL:=rfl
def lS (l:List ByteArray):Bool:=decide (l.length≤8)&&(List.range l.length).all fun i=>match l[i]? with
  | some x=>lN x&&(i==0||match l[i - 1]? with | some y=>blt y x | none=>true)
  | none=>true
set_option maxRecDepth 20000 in
theorem zUs:∀ k,k<7→lS (lL.take k)=true:=by decide
set_option maxRecDepth 20000 in
theorem zVj:∀ i,i<6→lN ((lL[i]?).getD ⟨#[]⟩)=true:=by decide
structure zXN (p:xE):Prop where
  now:tM p.Now=true
  next:tM p.Next=true
  needs:jN p.Needs=true
  names:wW p.Now=wW p.Next
  few:p.Needs.length≤6
  two:2≤p.Now.length
theorem gK {c:xQ} (h:vG c) {n:Int} (hn:1≤n):∃ r,yG c n=some r∧vG r.1∧0≤r.2∧r.2<n:=by
  obtain ⟨c',x,h1,h2,h3,h4⟩:=zTZ h n
  exact ⟨(c',x),h1,h2,h3,by show x<n; omega⟩
theorem qF {α β:Type} {x:Option α} {f:α→Option β} {P:α→Prop} {R:β→Prop} (h:∃ a,x=some a∧P a) (k:∀ a,P a→∃ r,f a=some r∧R r):∃ r,bnd x f=some r∧R r:=zVg h k
theorem zMn {p:xE} {l:List Nat} (h:eU p=some l):aD (yU p) (qJ p) 0 l:=zNh _ _ _ _ (cK.zero _) l h
theorem zMB {p:xE} (hv:sQ p=0) {l:List Nat} (hp:aD (yU p) (qJ p) 0 l):l.length≤8:=by
  have h:=zMq.1 hv
  have:=zKC (F:=yU p) (n:=p.Now.length) (zIE _ _) hp
  have h2:(xZ p.Now.length (yU p)).length≤8:=Nat.le_trans (List.length_filter_le _ _) (by simp; exact h.le8)
  omega
end Go.Proofs.YtplchdlgdjcojaaGreatDoor
end
section
namespace Go.Proofs.YtplchdlgdjcojaaGreatDoor
open Go
set_option linter.unusedSimpArgs false
set_option linter.unusedVariables false
def zCR:List Int→Option (zF × Nat)
  | k::n::r=>if n=128 then some (⟨k, [],true⟩,2) else if n>28∨(r.length:Int)<n then none else some (⟨k,r.take n.toNat,false⟩,2+n.toNat)
  | _=>none
theorem kP (k n:Int) (r:List Int):zCR (k::n::r)=if n=128 then some (⟨k, [],true⟩,2) else if n>28∨(r.length:Int)<n then none else some (⟨k,r.take n.toNat,false⟩,2+n.toNat):=rfl
theorem zBO {b:List Int} {x:zF} {n:Nat} (hr:rng b) (h:zCR b=some (x,n)):2≤n∧n≤b.length:=by
  match b,h with
  | k::c::r,h=>
    rw [kP] at h
    split at h
    · injection h with h; injection h with _ h; subst h; simp
    · split at h
      · cases h
      · rename_i h1
        have:=hr c (by simp)
        injection h with h; injection h with _ h; subst h
        simp only [List.length_cons]
        omega
theorem zEk {α:Type} {l:List α} {a b:Nat} (h1:a≤b) (h2:b≤l.length):Go.Proofs.YtplchdlgdjcojaaGreatDoor.sub l (a:Int) (b:Int)=some ((l.drop a).take (b - a)):=by
  unfold Go.Proofs.YtplchdlgdjcojaaGreatDoor.sub
  rw [if_pos ⟨by omega,by omega,by omega⟩]
  congr 1
  have e1:((a:Int)).toNat=a:=rfl
  have e2:((b:Int)).toNat=b:=rfl
  rw [e1,e2,List.drop_take]
def zSa (o:Option (zF × Nat)):zF × Int × Bool:=match o with | some (x,n)=>(x,(n:Int),true) | none=>(⟨0, [],false⟩,0,false)
theorem zPN {b:List Int} (hr:rng b) (hl:b.length≤16384):rL b=some (zSa (zCR b)):=by
  unfold rL
  match b,hr,hl with
  | [],_,_=>rfl
  | [k],_,_=>rfl
  | k::c::r,hr,hl=>
    have hc:=hr c (by simp)
    simp only [List.length_cons] at hl
    have e0:elt (k::c::r) 0=some k:=rfl
    have e1:elt (k::c::r) 1=some c:=rfl
    rw [yT (by simp only [List.length_cons,decide_eq_false_iff_not]; omega),e1,bnd_some,e0,kP]
    by_cases h1:c=128
    · rw [xK (by simpa using h1), bnd_some, if_pos h1]
      rfl
    · rw [yT (by simpa using h1), if_neg h1]
      obtain ⟨n,hn,rfl⟩:=sI hc
      have hw:IntKind.wrap .i64 (2+IntKind.wrap .i64 (n:Int))=((2+n:Nat):Int):=by rw [yZ (by omega),yQ (by omega) (by omega)]; omega
      rw [hw]
      by_cases h2:(n:Int)>28
      · rw [xK (by simpa using h2), bnd_some, cond_true, if_pos (.inl h2)]
        rfl
      · rw [yT (by simpa using h2), bnd_some]
        by_cases h3:(r.length:Int)<(n:Int)
        · rw [xK (by simp only [List.length_cons, decide_eq_true_eq]; omega), if_pos (.inr h3)]
          rfl
        · rw [yT (by simp only [List.length_cons, decide_eq_false_iff_not]; omega), bnd_some, if_neg (by omega)]
          have hs:Go.Proofs.YtplchdlgdjcojaaGreatDoor.sub (k::(n:Int)::r) 2 ((2+n:Nat):Int)=some (r.take n):=by
            have:=zEk (l:=k::(n:Int)::r) (a:=2) (b:=2+n) (by omega) (by simp; omega)
            rw [Nat.add_sub_cancel_left] at this
            exact this
          rw [hs,bnd_some,lV (by simp; omega),bnd_some]
          rfl
def lJ:Nat→List Int→Option (List zF × Nat)
  | 0,_=>some ([],0)
  | c+1,b=>match zCR b with
    | none=>none
    | some (x,n)=>match lJ c (b.drop n) with
      | none=>none
      | some (l,m)=>some (x::l,n+m)
theorem zDv:∀ (c:Nat) {b:List Int} {l:List zF} {n:Nat},rng b→lJ c b=some (l,n)→n≤b.length∧l.length=c
  | 0,b,l,n,_,h=>by injection h with h; injection h with h1 h2; subst h1; subst h2; simp
  | c+1,b,l,n,hr,h=>by
    unfold lJ at h
    split at h
    · cases h
    · rename_i x k hk
      split at h
      · cases h
      · rename_i l' m hm
        injection h with h; injection h with h1 h2
        subst h1; subst h2
        have h3:=zBO hr hk
        have h4:=zDv c (hr.drop k) hm
        simp only [List.length_drop,List.length_cons] at*
        omega
def rT:List Int→Option (List zF × Nat)
  | []=>none
  | c::r=>if c<1∨c>32 then none else match lJ c.toNat r with
    | none=>none
    | some (l,n)=>if r[n]? =some 0 then some (l,n+2) else none
theorem qV (c:Int) (r:List Int):rT (c::r)=if c<1∨c>32 then none else match lJ c.toNat r with
    | none=>none
    | some (l,n)=>if r[n]? =some 0 then some (l,n+2) else none:=rfl
theorem oV {b:List Int} {l:List zF} {n:Nat} (hr:rng b) (h:rT b=some (l,n)):2≤n∧n≤b.length:=by
  match b,h with
  | c::r,h=>
    rw [qV] at h
    split at h
    · cases h
    · split at h
      · cases h
      · rename_i l' m hm
        split at h
        · rename_i h0
          injection h with h; injection h with _ h; subst h
          have:=(List.getElem?_eq_some_iff.1 h0).1
          simp only [List.length_cons]
          omega
        · cases h
def zFV (o:Option (List zF × Nat)):List zF × Int × Bool:=match o with | some (l,n)=>(l,(n:Int),true) | none=>([],0,false)
noncomputable def dW (b_p0:List Int) (x2:Int):List zF × Int × Int→Option (sX (List zF × Int × Int) (((List zF) × Int × Bool) ⊕ (List zF × Int))):=
  (fun (s1:List zF × Int × Int)=>bif decide (s1.2.2<x2) then (bnd (Go.Proofs.YtplchdlgdjcojaaGreatDoor.sub b_p0 s1.2.1 (b_p0.length:Int)) fun l1=>bnd (rL l1) fun r1=>bif !r1.2.2 then (some (.done (.inl ([],0,false)))) else (bnd (app 40 s1.1 [r1.1]) fun l2=>some (.next (l2,IntKind.wrap .i64 (s1.2.1+r1.2.1),IntKind.wrap .u8 (s1.2.2+1))))) else (some (.done (.inr (s1.1,s1.2.1)))))
theorem zFo {b:List Int} (hr:rng b) (hl:b.length≤16384) (c:Nat) (hc:c≤32):∀ (k i at_:Nat) (acc:List zF),i+k=c→at_≤b.length→acc.length≤i→
    yE (dW b (c:Int)) (acc,(at_:Int),(i:Int))=some (match lJ k (b.drop at_) with | none=>.inl ([],0,false) | some (l,n)=>.inr (acc++l,((at_+n:Nat):Int)))
  | 0,i,at_,acc,h,_,_=>by
    refine xR ?_
    unfold dW
    simp only
    rw [yT (by simp; omega)]
    simp [lJ]
  | k+1,i,at_,acc,h,hat,hacc=>by
    have hsub:Go.Proofs.YtplchdlgdjcojaaGreatDoor.sub b (at_:Int) (b.length:Int)=some (b.drop at_):=by
      rw [zEk hat (Nat.le_refl _)]
      congr 1
      rw [List.take_of_length_le (by simp)]
    have hstep:dW b (c:Int) (acc,(at_:Int),(i:Int))=some (match zCR (b.drop at_) with | none=>.done (.inl ([],0,false)) | some (x,n)=>.next (acc++ [x],((at_+n:Nat):Int),((i+1:Nat):Int))):=by
      unfold dW
      simp only
      rw [xK (by simp; omega),hsub,bnd_some,zPN (hr.drop _) (by simp; omega),bnd_some]
      cases hcg:zCR (b.drop at_) with
      | none=>rfl
      | some p=>
        obtain ⟨x,n⟩:=p
        have hn:=zBO (hr.drop _) hcg
        simp only [List.length_drop] at hn
        simp only [zSa,Bool.not_true,cond_false]
        rw [uT (by simp; omega) (by simp; omega),bnd_some,yQ (by omega) (by omega),zAN (by omega) (by omega)]
        rfl
    unfold lJ
    cases hcg:zCR (b.drop at_) with
    | none=>rw [hcg] at hstep; exact xR hstep
    | some p=>
      obtain ⟨x,n⟩:=p
      have hn:=zBO (hr.drop _) hcg
      simp only [List.length_drop] at hn
      rw [hcg] at hstep
      refine tK hstep ?_
      rw [zFo hr hl c hc k (i+1) (at_+n) (acc++ [x]) (by omega) (by omega) (by simp; omega)]
      simp only [List.drop_drop]
      cases hcs:lJ k (b.drop (at_+n)) with
      | none=>rfl
      | some q=>
        obtain ⟨l,m⟩:=q
        simp only [List.append_assoc,List.singleton_append]
        rw [Nat.add_assoc]
theorem zSe {b:List Int} (hr:rng b) (hl:b.length≤16384):qQ b=some (zFV (rT b)):=by
  unfold qQ
  match b,hr,hl with
  | [],_,_=>rfl
  | c::r,hr,hl=>
    have hc:=hr c (by simp)
    have e0:elt (c::r) 0=some c:=rfl
    have hr':rng r:=fun x hx=>hr x (by simp [hx])
    simp only [List.length_cons] at hl
    rw [yT (by simp only [List.length_cons,beq_eq_false_iff_ne,ne_eq]; omega),e0,bnd_some,qV]
    by_cases h1:c<1
    · rw [xK (by simpa using h1), bnd_some, cond_true, if_pos (.inl h1)]
      rfl
    · rw [yT (by simpa using h1), bnd_some]
      by_cases h2:c>32
      · rw [xK (by simpa using h2), if_pos (.inr h2)]
        rfl
      · rw [yT (by simpa using h2), bnd_some, if_neg (by omega)]
        obtain ⟨n,hn,rfl⟩:=sI hc
        have hlp:=zFo hr (by simp; omega) n (by omega) n 0 1 [] (by omega) (by simp) (by simp)
        unfold dW at hlp
        refine yA hlp ?_
        have e2:((n:Int)).toNat=n:=rfl
        rw [List.drop_succ_cons,List.drop_zero,e2]
        cases hcs:lJ n r with
        | none=>rfl
        | some q=>
          obtain ⟨l,m⟩:=q
          have hm:=(zDv n hr' hcs).1
          simp only [List.nil_append,retOr_inr,List.length_cons]
          by_cases h3:1+m=r.length+1
          · rw [xK (by simp; omega), bnd_some, cond_true, if_neg (by rw [List.getElem?_eq_none (by omega)]; simp)]
            rfl
          · have hmr : m < r.length := by omega
            have e3:elt ((n:Int)::r) ((1+m:Nat):Int)=some r[m]:=by
              rw [elt_nat,Nat.add_comm,List.getElem?_cons_succ,List.getElem?_eq_getElem hmr]
            rw [yT (by simp; omega),e3,bnd_some,bnd_some,List.getElem?_eq_getElem hmr]
            by_cases h4:r[m]=0
            · rw [yT (by simpa using h4), if_pos (by rw [h4]), yQ (by omega) (by omega)]
              simp only [zFV]
              congr 3
              omega
            · rw [xK (by simpa using h4), if_neg (by simpa using h4)]
              rfl
def eO (x:zF):List Int:=if x.Delete then [x.Key,128] else x.Key::IntKind.wrap .u8 (x.Value.length:Int)::x.Value
def wE (l:List zF):List Int:=IntKind.wrap .u8 (l.length:Int)::l.flatMap eO++ [0]
theorem zKG (x:zF):2≤(eO x).length∧(eO x).length≤2+x.Value.length:=by
  unfold eO
  split
  · simp
  · simp only [List.length_cons]
    omega
theorem zSX {l:List zF} (h:∀ x∈l,x.Value.length≤1000):(l.flatMap eO).length≤l.length*1002:=by
  induction l with
  | nil=>simp
  | cons x r ih=>
    have h1:=(zKG x).2
    have h2:=h x (by simp)
    have h3:=ih fun y hy=>h y (by simp [hy])
    simp only [List.flatMap_cons,List.length_append,List.length_cons]
    omega
theorem zHm {l:List zF} (hl:l.length≤1000) (hv:∀ x∈l,x.Value.length≤1000):rO l=some (wE l):=by
  unfold rO
  have hb:∀ i,i≤l.length→(IntKind.wrap .u8 (l.length:Int)::(l.take i).flatMap eO).length≤1+i*1002:=fun i hi=>by
    have:=zSX (l:=l.take i) fun x hx=>hv x (List.mem_of_mem_take hx)
    simp only [List.length_take,List.length_cons] at*
    rw [Nat.min_eq_left hi] at this
    omega
  refine xT (fun i=>(IntKind.wrap .u8 (l.length:Int)::(l.take i).flatMap eO,(i:Int))) l.length (IntKind.wrap .u8 (l.length:Int)::l.flatMap eO) rfl (fun i hi=>?_) ?_ ?_
  · have h1 := hb i (by omega)
    have h2:=hv l[i] (List.getElem_mem hi)
    have h3:i*1002≤1000*1002:=Nat.mul_le_mul_right _ (by omega)
    simp only
    rw [xK (by simp; omega),yV hi,bnd_some,xB hi,List.flatMap_append]
    simp only [List.flatMap_cons,List.flatMap_nil,List.append_nil]
    have hE:∀ (z:List Int),(IntKind.wrap .u8 (l.length:Int)::((l.take i).flatMap eO++z))=(IntKind.wrap .u8 (l.length:Int)::(l.take i).flatMap eO)++z:=fun z=>rfl
    rw [hE]
    generalize hpre:IntKind.wrap .u8 (l.length:Int)::(l.take i).flatMap eO=pre at h1 ⊢
    unfold eO
    cases hd:l[i].Delete
    · simp only [cond_false]
      rw [uT (by simp; omega) (by simp; omega),bnd_some,uT (by simp; omega) (by simp; omega),bnd_some,zR hi (by omega)]
      simp
    · simp only [cond_true]
      rw [uT (by simp; omega) (by simp; omega),bnd_some,zR hi (by omega)]
      simp
  · simp only
    rw [yT (by simp),List.take_length]
  · have h1 := hb l.length (Nat.le_refl _)
    rw [List.take_length] at h1
    have h3:l.length*1002≤1000*1002:=Nat.mul_le_mul_right _ hl
    rw [uT (by simp only [List.length_cons,List.length_nil] at*; omega) (by simp only [List.length_cons,List.length_nil] at*; omega),bnd_some]
    rfl
def rB (b:List Int):Bool:=b.all fun x=>x==255
theorem zKz {b:List Int} (hl:b.length≤16384):qN b=some (rB b):=by
  unfold qN wT vN
  have hf:∀ i (h:i<b.length),(fun i:Nat=>if (b.getD i 255 != 255) then some (.inl (i:Int):Int ⊕ Unit) else none) i=if (fun x:Int=>x != 255) b[i] then some ((fun (i:Nat) (_:Int)=>(.inl (i:Int):Int ⊕ Unit)) i b[i]) else none:=fun i h=>by
    simp only [List.getD_eq_getElem?_getD,List.getElem?_eq_getElem h,Option.getD_some]
  have hL:=zDr (m:=fun (s1:Int)=>bif decide (s1<(b.length:Int)) then (bnd (elt b s1) fun x1=>bnd (sJ x1) fun r1=>bif r1 then (some (.done (.inl s1:Int ⊕ Unit))) else (some (.next (IntKind.wrap .i64 (s1+1))))) else (some (.done (.inr ())))) (fun i=>(i:Int)) b.length (fun i=>if (b.getD i 255 != 255) then some (.inl (i:Int):Int ⊕ Unit) else none) (t:=.inr ()) (fun i hi=>?_) ?_
  · have h0 : ((0 : Nat) : Int) = 0 := rfl
    rw [h0] at hL
    rw [hL,bnd_some]
    rcases cU b (fun x=>x != 255) (fun i _=>(.inl (i:Int):Int ⊕ Unit)) _ hf with ⟨i,hi,h1,_,h3⟩ | ⟨_,h2,h3⟩
    · rw [h3]
      simp only [Option.getD_some,retOr_inl,bnd_some]
      congr 1
      have:rB b=false:=by
        unfold rB
        rw [List.all_eq_false]
        exact ⟨b[i],List.getElem_mem hi,by simpa using h1⟩
      rw [this]
      simp
    · rw [h3]
      simp only [Option.getD_none,retOr_inr,bnd_some]
      congr 1
      have:rB b=true:=by
        unfold rB
        rw [List.all_eq_true]
        intro x hx
        simpa using h2 x hx
      rw [this]
      rfl
  · rw [xK (by simp; omega), yV hi, bnd_some]
    unfold sJ
    rw [bnd_some,List.getD_eq_getElem?_getD,List.getElem?_eq_getElem hi]
    simp only [Option.getD_some]
    by_cases hb:b[i]=255
    · rw [yT (by simpa using hb),zR hi (by omega),if_neg (by simpa using hb)]
    · rw [xK (by simpa using hb),if_pos (by simpa using hb)]
  · rw [yT (by simp)]
theorem cJ {b:List Int}:rB b=true↔b=List.replicate b.length 255:=by
  unfold rB
  rw [List.all_eq_true,List.eq_replicate_iff]
  simp
end Go.Proofs.YtplchdlgdjcojaaGreatDoor
end
