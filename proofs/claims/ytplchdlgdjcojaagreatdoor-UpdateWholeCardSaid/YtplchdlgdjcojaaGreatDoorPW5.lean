/-
  Texts of this seat, put together: rules, walks, plain laws.
  Conditions: none.
-/
import Derived.Test.YtplchdlgdjcojaaGreatDoorPW4
section
namespace Go.Proofs.YtplchdlgdjcojaaGreatDoor
open Go
set_option linter.unusedVariables false
set_option maxHeartbeats 4000000
set_option maxRecDepth 4000
theorem yA {c_p0 n_p1 A1 c1 gb1 r} (h:zY c_p0 n_p1=some r):
    Fun Tryz.prog 31 [.pointer (some ⟨gb1,0,none⟩), .int .i64 n_p1] [.ro (SlL eu8 A1 c1 c_p0.L), .res (Box gb1 127 [.slice A1 c_p0.L.length c1, .int .i64 c_p0.At])] (fun v F=>∃ A2 c2,v= .int .i64 r.2∧F= [.ro (SlL eu8 A2 c2 r.1.L), .res (Box gb1 127 [.slice A2 r.1.L.length c2, .int .i64 r.1.At])]):=by
 refine Fun.intro Tryz.func31 rfl rfl rfl fun w R=>?_;refine .ab [0,1] rfl<|.seq<|.seq<|.bd h fun o1 hj1 h=>.cu 0 [0,1, .s 12 (.bool o1)] [] rfl rfl ?_ ?_
 ·refine .region<|.p rfl rfl<|.bd hj1 fun r1 hr1 hj1=>.cq 2 [1] [1] 0 (mO hr1) zRA rfl<|.n 2 rfl<|.gs 9 hj1 rfl (fun hj1=>?_) (fun hj1=>?_)
  ·cases hj1;exact .be rfl<|.hU rfl (zl [1] 0 rfl)
  cases hj1;exact .be rfl<|.hU rfl (zl [1] 0 rfl)
 refine .cb h rfl (fun h=>?_) (fun h=>?_)
 ·refine .ab [4] rfl ?_;cases h;exact .rv rfl rfl ⟨A1,c1,rfl,rfl⟩ (zk 2 1 [1] [1] 0 rfl)
 refine .sk<|.pr [0,1] rfl<|.seq<|.regionF mixed (by kernel_rfl)<|.n 3 rfl<|.lb 0 1 rfl<|.n 3 rfl<|.lb 1 1 rfl<|.bd h fun x1 hx1 h=>.ix1 hx1 0 rfl fun b1 ob1=>.ld ob1 0 0 rfl<|.beq rfl<|.pf [0,1,5] [] 1 rfl rfl<|.a 3 rfl<|.lb 1 1 rfl<|.n 3 rfl<|.sb 1 1 rfl<|.b [0,1,5] rfl<|.seq<|.seq<|.bd h fun o2 hj2 h=>.cu 0 [0,1,5, .s 36 (.bool o2)] [] rfl rfl ?_ ?_
 ·refine .region<|.n 3 rfl<|.gs 33 hj2 rfl (fun hj2=>?_) (fun hj2=>?_)
  ·refine .n 1 rfl<|.gOn rfl rfl<|.bd hj2 fun r2 hr2 hj2=>.cq 2 [1] [] 0 (mO hr2) zRA rfl ?_;cases hj2;exact .be rfl<|.hU rfl zw
  cases hj2;exact .be rfl<|.hU rfl zw
 refine .cb h rfl (fun h=>?_) (fun h=>?_)
 ·refine .seq<|.regionF mixed (by kernel_rfl)<|.n 4 rfl<|.lb 0 0 rfl<|.n 3 rfl<|.lb 1 0 rfl<|.bd h fun x2 hx2 h=>.ix1 hx2 1 rfl fun b2 ob2=>.ld ob2 0 0 rfl<|.beq rfl<|.pf [0,1,5] [] 1 rfl rfl<|.region<|.n 3 rfl<|.lb 1 0 rfl<|.n 3 rfl<|.sb 1 0 rfl<|.b [1,5] rfl<|.a 2 rfl<|.bd h fun q1 hq1 h=>.rem rfl rfl rfl hq1<|.b [4] rfl ?_;cases h;exact .rv rfl rfl ⟨A1,c1,rfl,rfl⟩ (zk 2 1 [1] [] 0 rfl)
 refine .sk<|.pr [1,5] rfl<|.a 2 rfl<|.bd h fun q2 hq2 h=>.rem rfl rfl rfl hq2<|.b [4] rfl ?_;cases h;exact .rv rfl rfl ⟨A1,c1,rfl,rfl⟩ (zk 2 1 [1] [] 0 rfl)
theorem zMb:Ent Tryz.prog 216:=en Tryz.func216 (by kernel_rfl)
noncomputable def nL (s_p0:ByteArray):Option Bool:=
 bnd ((bif decide ((s_p0.size:Int)<1) then (some true) else (bif decide ((s_p0.size:Int)>16) then (some true) else (bnd (eltS s_p0 0) fun y1=>bif decide (y1<97) then (some true) else (some (decide (y1>122))))):Option Bool)) fun o1=>bif o1 then (some false) else (bnd (yG (τ:=Bool ⊕ Unit) (fun (s1:Int)=>bif decide (s1<(s_p0.size:Int)) then (bnd ((bnd (eltS s_p0 s1) fun y2=>bif decide (y2≥97) then (bif decide (y2≤122) then (some false) else (bif decide (y2≥48) then (bif decide (y2≤57) then (some false) else (some (!(y2==45)))) else (some (!(y2==45))))) else (bif decide (y2≥48) then (bif decide (y2≤57) then (some false) else (some (!(y2==45)))) else (some (!(y2==45)))):Option Bool)) fun o4=>bif o4 then (some (.done (.inl false))) else (some (.next (IntKind.wrap .i64 (s1+1))))) else (some (.done (.inr ())))) 0) fun o2=>wT o2 fun o3=>some true)
theorem cR {s_p0 r} (h:nL s_p0=some r):
    Fun Tryz.prog 216 [.string s_p0] [] (Val (.bool r)):=by
 refine Fun.intro Tryz.func216 rfl rfl rfl fun w R=>?_;refine .ab [0] rfl<|.seq<|.seq<|.bd h fun o1 hj1 h=>.cu 0 [0, .s 21 (.bool o1)] [] rfl rfl ?_ ?_
 ·refine .region<|.n 4 rfl<|.gs 7 hj1 rfl (fun hj1=>?_) (fun hj1=>?_)
  ·cases hj1;exact .be rfl<|.hU rfl zw
  refine .n 5 rfl<|.gs 12 hj1 rfl (fun hj1=>?_) (fun hj1=>?_)
  ·cases hj1;exact .be rfl<|.hU rfl zw
  refine .n 1 rfl<|.gOn rfl rfl<|.bd hj1 fun y1 hy1 hj1=>.eltS rfl rfl rfl rfl rfl hy1<|.n 3 rfl<|.gs 17 hj1 rfl (fun hj1=>?_) (fun hj1=>?_)
  ·cases hj1;exact .be rfl<|.hU rfl zw
  refine .n 1 rfl<|.gOn rfl rfl<|.eltS rfl rfl rfl rfl rfl hy1 ?_;cases hj1;exact .be rfl<|.hU rfl zw
 refine .cb h rfl (fun h=>?_) (fun h=>?_)
 ·refine .ab [2] rfl ?_;cases h;exact .rv rfl rfl ⟨rfl,rfl⟩ zw
 refine .sk<|.pr [0] rfl<|.seq<|.ae rfl<|.bd h fun o2 hl1 h=>.cutJ 0 (fun (o3:Unit) (e3:Unit)=>[]) (fun o3 e3=>[]) rfl rfl (fun o3=>o2= .inr o3) ?_ ?_
 ·refine .block<|.loopQ hl1 0 (fun (s1:Int) (e2:Unit)=>[0, .s 3 (.int .i64 s1)]) (fun s1 e2=>[]) rfl rfl () (zb rfl) (fun _ w=>w) ?_;rintro s1 e2 st1 hm1 hd1 h1;refine .seq<|.ab [0,3,25] rfl<|.cb h1 rfl (fun h1=>?_) (fun h1=>?_)
  ·refine .sk<|.pr [0,3] rfl<|.seq<|.block<|.seq<|.bd h1 fun o4 hj2 h1=>.cu 0 [0,3, .s 56 (.bool o4)] [] rfl rfl ?_ ?_
   ·refine .region<|.n 2 rfl<|.bd hj2 fun y2 hy2 hj2=>.eltS rfl rfl rfl rfl rfl hy2<|.n 2 rfl<|.gs 32 hj2 rfl (fun hj2=>?_) (fun hj2=>?_)
    ·refine .n 2 rfl<|.gOn rfl rfl<|.eltS rfl rfl rfl rfl rfl hy2<|.n 3 rfl<|.gs 38 hj2 rfl (fun hj2=>?_) (fun hj2=>?_)
     ·cases hj2;exact .be rfl<|.hU rfl zw
     refine .n 2 rfl<|.gOn rfl rfl<|.eltS rfl rfl rfl rfl rfl hy2<|.n 2 rfl<|.gs 43 hj2 rfl (fun hj2=>?_) (fun hj2=>?_)
     ·refine .n 2 rfl<|.gOn rfl rfl<|.eltS rfl rfl rfl rfl rfl hy2<|.n 4 rfl<|.gs 50 hj2 rfl (fun hj2=>?_) (fun hj2=>?_)
      ·cases hj2;exact .be rfl<|.hU rfl zw
      refine .n 2 rfl<|.gOn rfl rfl<|.eltS rfl rfl rfl rfl rfl hy2 ?_;cases hj2;exact .be rfl<|.hU rfl zw
     refine .n 9 rfl<|.gOn rfl rfl<|.eltS rfl rfl rfl rfl rfl hy2 ?_;cases hj2;exact .be rfl<|.hU rfl zw
    refine .n 8 rfl<|.gOn rfl rfl<|.eltS rfl rfl rfl rfl rfl hy2<|.n 2 rfl<|.gs 43 hj2 rfl (fun hj2=>?_) (fun hj2=>?_)
    ·refine .n 2 rfl<|.gOn rfl rfl<|.eltS rfl rfl rfl rfl rfl hy2<|.n 4 rfl<|.gs 50 hj2 rfl (fun hj2=>?_) (fun hj2=>?_)
     ·cases hj2;exact .be rfl<|.hU rfl zw
     refine .n 2 rfl<|.gOn rfl rfl<|.eltS rfl rfl rfl rfl rfl hy2 ?_;cases hj2;exact .be rfl<|.hU rfl zw
    refine .n 9 rfl<|.gOn rfl rfl<|.eltS rfl rfl rfl rfl rfl hy2 ?_;cases hj2;exact .be rfl<|.hU rfl zw
   refine .cb h1 rfl (fun h1=>?_) (fun h1=>?_)
   ·refine .ab [2] rfl ?_;cases h1;cases hd1 _ rfl
    have h:some _=some _:=h;cases h;exact .rv rfl rfl ⟨rfl,rfl⟩ zw
   refine .skip<|.blkN<|.thenN<|.pr [0,3] rfl<|.region ?_;cases h1;exact .be rfl<|.ag () hm1 rfl zw
  refine .xq rfl ?_;cases h1;cases hd1 _ rfl
  exact .thenN<|.hereI () () rfl trivial zw
 rintro o3 e3 ho;subst ho;have h:=unR h;refine .ae rfl ?_;cases h;exact .rv rfl rfl ⟨rfl,rfl⟩ zw
theorem zNm:Ent Tryz.prog 217:=en Tryz.func217 (by kernel_rfl)
noncomputable def pR (v_p0:zK):Option Bool:=
 bnd ((bif decide (v_p0.Major≥0) then (bif decide (v_p0.Major≤999) then (bif decide (v_p0.Minor≥0) then (bif decide (v_p0.Minor≤999) then (bif decide (v_p0.Patch≥0) then (some (decide (v_p0.Patch≤999))) else (some false)) else (some false)) else (some false)) else (some false)) else (some false):Option Bool)) fun o1=>some o1
theorem eY {v_p0 r} (h:pR v_p0=some r):
    Fun Tryz.prog 217 [.agg #[.int .i64 v_p0.Major, .int .i64 v_p0.Minor, .int .i64 v_p0.Patch]] [] (Val (.bool r)):=by
 refine Fun.intro Tryz.func217 rfl rfl rfl fun w R=>?_;refine .seq<|.region<|.box rfl rfl fun g1=>.b [1] rfl<|.seq<|.bd h fun o1 hj1 h=>.cu 1 [.s 2 (.bool o1)] [] rfl rfl ?_ ?_
 ·refine .region<|.p rfl rfl<|.lb 0 0 rfl<|.n 2 rfl<|.gs 6 hj1 rfl (fun hj1=>?_) (fun hj1=>?_)
  ·refine .n 1 rfl<|.gOn rfl rfl<|.lb 0 0 rfl<|.n 3 rfl<|.gs 11 hj1 rfl (fun hj1=>?_) (fun hj1=>?_)
   ·refine .n 1 rfl<|.gOn rfl rfl<|.lb 1 0 rfl<|.n 3 rfl<|.gs 16 hj1 rfl (fun hj1=>?_) (fun hj1=>?_)
    ·refine .n 1 rfl<|.gOn rfl rfl<|.lb 1 0 rfl<|.n 3 rfl<|.gs 21 hj1 rfl (fun hj1=>?_) (fun hj1=>?_)
     ·refine .n 1 rfl<|.gOn rfl rfl<|.lb 2 0 rfl<|.n 3 rfl<|.gs 26 hj1 rfl (fun hj1=>?_) (fun hj1=>?_)
      ·refine .n 1 rfl<|.gOn rfl rfl<|.lb 2 0 rfl ?_;cases hj1;exact .be rfl<|.hU rfl (zl [] 1 rfl)
      cases hj1;exact .be rfl<|.hU rfl (zl [] 1 rfl)
     cases hj1;exact .be rfl<|.hU rfl (zl [] 1 rfl)
    cases hj1;exact .be rfl<|.hU rfl (zl [] 1 rfl)
   cases hj1;exact .be rfl<|.hU rfl (zl [] 1 rfl)
  cases hj1;exact .be rfl<|.hU rfl (zl [] 1 rfl)
 cases h;exact .rv rfl rfl ⟨rfl,rfl⟩ zw
theorem zML:Ent Tryz.prog 134:=en Tryz.func134 (by kernel_rfl)
noncomputable def pS (i_p0:zH):Option Bool:=
 bnd ((bnd (nL i_p0.Name) fun r1=>bif r1 then (bnd (pR i_p0.Version) fun r2=>bif r2 then (bif decide ((i_p0.Data.length:Int)≥1) then (some (decide ((i_p0.Data.length:Int)≤512))) else (some false)) else (some false)) else (some false):Option Bool)) fun o1=>some o1
theorem eT {i_p0 A1 c1 r} (h:pS i_p0=some r):
    Fun Tryz.prog 134 [.agg (xJ i_p0 A1 c1).toArray] [.ro (SlL eu8 A1 c1 i_p0.Data)] (Val (.bool r)):=by
 refine Fun.intro Tryz.func134 rfl rfl rfl fun w R=>?_;refine .seq<|.region<|.box rfl rfl fun g1=>.b [1] rfl<|.seq<|.bd h fun o1 hj1 h=>.cu 2 [.s 2 (.bool o1)] [] rfl rfl ?_ ?_
 ·refine .region<|.p rfl rfl<|.lb 0 0 rfl<|.bd hj1 fun r1 hr1 hj1=>.cv [] (cR hr1) zMb rfl<|.p rfl rfl<|.gs 6 hj1 rfl (fun hj1=>?_) (fun hj1=>?_)
  ·refine .n 1 rfl<|.gOn rfl rfl<|.lb 1 0 rfl<|.gOn rfl rfl<|.bd hj1 fun r2 hr2 hj1=>.cv [] (eY hr2) zNm rfl<|.n 2 rfl<|.gs 11 hj1 rfl (fun hj1=>?_) (fun hj1=>?_)
   ·refine .n 1 rfl<|.gOn rfl rfl<|.lb 4 0 rfl<|.n 4 rfl<|.gs 17 hj1 rfl (fun hj1=>?_) (fun hj1=>?_)
    ·refine .n 1 rfl<|.gOn rfl rfl<|.lb 4 0 rfl ?_;cases hj1;exact .be rfl<|.hU rfl (zl [] 2 rfl)
    cases hj1;exact .be rfl<|.hU rfl (zl [] 2 rfl)
   cases hj1;exact .be rfl<|.hU rfl (zl [] 2 rfl)
  cases hj1;exact .be rfl<|.hU rfl (zl [] 2 rfl)
 cases h;exact .rv rfl rfl ⟨rfl,rfl⟩ zw
theorem zWf:Ent Tryz.prog 135:=en Tryz.func135 (by kernel_rfl)
noncomputable def jS (i_p0:zH):Option zH:=
 bnd (app 1 ([]) i_p0.Data) fun l1=>some (⟨i_p0.Name,i_p0.Version,l1⟩:zH)
theorem zHe {i_p0 A1 c1 r} (h:jS i_p0=some r):
    Fun Tryz.prog 135 [.agg (xJ i_p0 A1 c1).toArray] [.ro (SlL eu8 A1 c1 i_p0.Data)] (fun v F=>∃ A2 c2,v= .agg (xJ r A2 c2).toArray∧F= [.ro (SlL eu8 A2 c2 r.Data)]):=by
 refine Fun.intro Tryz.func135 rfl rfl rfl fun w R=>?_;refine .seq<|.region<|.box rfl rfl fun g1=>.alloc rfl rfl fun g2=>.b [1,2] rfl<|.a 1 rfl<|.lb 4 1 rfl<|.asrt (fun _ w=>w.nilL eu8 5)<|.bd h fun l1 hl1 h=>.app (E:=eu8) hl1 rfl rfl rfl .z rfl rfl rfl rfl rfl rfl rfl rfl (fB (.tail _ (.tail _ (.tail _ (.head _))))) rfl rfl fun A2 c2=>.p rfl rfl<|.sb 4 2 rfl<|.bf [1,2] [0,0,0] 1 rfl rfl<|.seq<|.region<|.lb 0 0 rfl<|.sb 0 2 rfl<|.bf [2] [0] 1 rfl rfl<|.asrt (fun _ w=>(w.sl [1] 0 rfl).meltL) ?_;cases h;exact .rt rfl Tryz.results135 (.cell rfl (.tail _ (.head _)) rfl .nil) rfl ⟨A2,c2,rfl,rfl⟩ (zk 1 2 [0] [] 0 rfl)
theorem zMu:Ent Tryz.prog 152:=en Tryz.func152 (by kernel_rfl)
noncomputable def pE (s_p0:ByteArray):Option (List Int):=
 bnd (app 1 ([IntKind.wrap .u8 (s_p0.size:Int)]) (nK s_p0)) fun l1=>some l1
theorem cY {s_p0 r} (h:pE s_p0=some r):
    Fun Tryz.prog 152 [.string s_p0] [] (fun v F=>∃ A1 c1,v= .slice A1 r.length c1∧F= [.res (zM eu8 5 A1 c1 r)]):=by
 refine Fun.intro Tryz.func152 rfl rfl rfl fun w R=>?_;refine .ab [0] rfl<|.a 3 rfl<|.bS rfl fun g1=>.p rfl rfl<|.asrt (fun _ w=>w.litL (E:=eu8) (e:=5) [IntKind.wrap .u8 (s_p0.size:Int)] rfl rfl)<|.bd h fun l1 hl1 h=>.app (E:=eu8) hl1 rfl rfl rfl .z rfl rfl rfl rfl rfl rfl rfl (by simp [nK,ByteArray.toList_eq]) (zXr s_p0) rfl rfl fun A1 c1=>.b [2] rfl ?_;cases h;exact .rv rfl rfl ⟨A1,c1,rfl,rfl⟩ zw
theorem zJp:Ent Tryz.prog 228:=en Tryz.func228 (by kernel_rfl)
noncomputable def qY (n_p0:Int):Option (List Int):=
 some ([IntKind.wrap .u8 (uD .i64 n_p0 8),IntKind.wrap .u8 n_p0])
theorem fS {n_p0 r} (h:qY n_p0=some r):
    Fun Tryz.prog 228 [.int .i64 n_p0] [] (fun v F=>∃ A1 c1,v= .slice A1 r.length c1∧F= [.res (zM eu8 5 A1 c1 r)]):=by
 unfold qY at h
 refine Fun.intro Tryz.func228 rfl rfl rfl fun w R=>?_;refine .ab [0] rfl<|.a 5 rfl<|.bS rfl fun g1=>.b [2] rfl<|.asrt (fun _ w=>w.litL (E:=eu8) (e:=5) [IntKind.wrap .u8 (uD .i64 n_p0 8),IntKind.wrap .u8 n_p0] rfl rfl) ?_;cases h;exact .rv rfl rfl ⟨(some ⟨g1,0,none⟩),([IntKind.wrap .u8 (uD .i64 n_p0 8),IntKind.wrap .u8 n_p0]:List Int).length,rfl,rfl⟩ zw
theorem zNn:Ent Tryz.prog 153:=en Tryz.func153 (by kernel_rfl)
noncomputable def uO (v_p0:zK):Option (List Int):=
 bnd (qY v_p0.Major) fun r1=>bnd (qY v_p0.Minor) fun r2=>bnd (app 1 r1 r2) fun l1=>bnd (qY v_p0.Patch) fun r3=>bnd (app 1 l1 r3) fun l2=>some l2
theorem iM {v_p0 r} (h:uO v_p0=some r):
    Fun Tryz.prog 153 [.agg #[.int .i64 v_p0.Major, .int .i64 v_p0.Minor, .int .i64 v_p0.Patch]] [] (fun v F=>∃ A1 c1,v= .slice A1 r.length c1∧F= [.res (zM eu8 5 A1 c1 r)]):=by
 unfold uO at h
 refine Fun.intro Tryz.func153 rfl rfl rfl fun w R=>?_;refine .seq<|.region<|.box rfl rfl fun g1=>.b [1] rfl<|.seq<|.regionX (iN [0,5,12,16,28,32,11,23,27,39,43,44] .nil) _ mixed (by kernel_rfl) zw<|.yn 1 rfl<|.yx 0 0 rfl<|.yn 1 rfl<|.yl 1 0 rfl<|.yn 1 rfl<|.yl 2 0 rfl<|.xef<|.bd h fun r1 hr1 h=>.cr 2 [] [] 0 (fS hr1) zJp rfl fun A1 c1=>.xk (zl [] 1 rfl)<|.xef<|.bd h fun r2 hr2 h=>.cr 3 [] [] 0 (fS hr2) zJp rfl fun A2 c2=>.xk (zl [] 2 rfl)<|.xef<|.asrt (fun _ w=>w.meltL)<|.bd h fun l1 hl1 h=>.app (E:=eu8) hl1 rfl rfl rfl (.s .z) rfl rfl rfl rfl rfl rfl rfl rfl (fB (.head _)) rfl rfl fun A3 c3=>.xk (zl [] 2 rfl)<|.xef<|.bd h fun r3 hr3 h=>.cr 4 [] [] 0 (fS hr3) zJp rfl fun A4 c4=>.xk (zl [] 3 rfl)<|.xef<|.asrt (fun _ w=>w.meltL)<|.bd h fun l2 hl2 h=>.app (E:=eu8) hl2 rfl rfl rfl (.s .z) rfl rfl rfl rfl rfl rfl rfl rfl (fB (.head _)) rfl rfl fun A5 c5=>.xk (zl [] 3 rfl)<|.yn 1 rfl<|.xdone<|.thenN<|.pf [2] [0] 3 rfl rfl ?_;cases h;exact .rv rfl rfl ⟨A5,c5,rfl,rfl⟩ zw
theorem zRh:Ent Tryz.prog 150:=en Tryz.func150 (by kernel_rfl)
noncomputable def pW (i_p0:zH):Option (List Int):=
 bnd (pE i_p0.Name) fun r1=>bnd (uO i_p0.Version) fun r2=>bnd (app 1 r1 r2) fun l1=>bnd (qY (i_p0.Data.length:Int)) fun r3=>bnd (app 1 l1 r3) fun l2=>bnd (app 1 l2 i_p0.Data) fun l3=>some l3
theorem zBa {i_p0 A1 c1 r} (h:pW i_p0=some r):
    Fun Tryz.prog 150 [.agg (xJ i_p0 A1 c1).toArray] [.ro (SlL eu8 A1 c1 i_p0.Data)] (fun v F=>∃ A2 c2,v= .slice A2 r.length c2∧F= [.res (zM eu8 5 A2 c2 r)]):=by
 unfold pW at h
 refine Fun.intro Tryz.func150 rfl rfl rfl fun w R=>?_;refine .seq<|.region<|.box rfl rfl fun g1=>.b [1] rfl<|.seq<|.regionX (iN [0,5,12,16,11,23,27,28] .nil) _ mixed (by kernel_rfl) zw<|.yn 1 rfl<|.yx 0 0 rfl<|.yn 1 rfl<|.yl 1 0 rfl<|.xef<|.bd h fun r1 hr1 h=>.cr 3 [] [] 0 (cY hr1) zMu rfl fun A2 c2=>.xk (zl [] 1 rfl)<|.xef<|.bd h fun r2 hr2 h=>.cr 4 [] [] 0 (iM hr2) zNn rfl fun A3 c3=>.xk (zl [] 2 rfl)<|.xef<|.asrt (fun _ w=>w.meltL)<|.bd h fun l1 hl1 h=>.app (E:=eu8) hl1 rfl rfl rfl (.s .z) rfl rfl rfl rfl rfl rfl rfl rfl (fB (.head _)) rfl rfl fun A4 c4=>.xk (zl [] 2 rfl)<|.yn 1 rfl<|.xdone<|.thenN<|.pf [1,3] [0] 1 rfl rfl<|.a 2 rfl<|.lb 4 1 rfl<|.p rfl rfl<|.bd h fun r3 hr3 h=>.cr 4 [] [] 0 (fS hr3) zJp rfl fun A5 c5=>.asrt (fun _ w=>w.meltL)<|.bd h fun l2 hl2 h=>.app (E:=eu8) hl2 rfl rfl rfl (.s .z) rfl rfl rfl rfl rfl rfl rfl rfl (fB (.head _)) rfl rfl fun A6 c6=>.bf [1,3] [0] 1 rfl rfl<|.a 2 rfl<|.lb 4 1 rfl<|.bd h fun l3 hl3 h=>.app (E:=eu8) hl3 rfl rfl rfl .z rfl rfl rfl rfl rfl rfl rfl rfl (fB (.tail _ (.tail _ (.head _)))) rfl rfl fun A7 c7=>.bf [2] [0] 2 rfl rfl ?_;cases h;exact .rv rfl rfl ⟨A7,c7,rfl,rfl⟩ zw
theorem zRy:Ent Tryz.prog 154:=en Tryz.func154 (by kernel_rfl)
noncomputable def pT (b_p0:(List Int)):Option Int:=
 bnd (yG (τ:=Int) (fun (s1:Int × Int)=>bif decide (s1.2<(b_p0.length:Int)) then (bnd (elt b_p0 s1.2) fun x1=>bnd (yG (τ:=Int) (fun (s2:Int × Int)=>bif decide (s2.2<8) then (bif ((s2.1.tmod 2)==1) then (some (.next (fN .u32 (IntKind.wrap .u32 (s2.1.tdiv 2)) 3988292384,IntKind.wrap .i64 (s2.2+1)))) else (some (.next (IntKind.wrap .u32 (s2.1.tdiv 2),IntKind.wrap .i64 (s2.2+1))))) else (some (.done s2.1))) (fN .u32 s1.1 (IntKind.wrap .u32 x1),0)) fun o2=>some (.next (o2,IntKind.wrap .i64 (s1.2+1)))) else (some (.done s1.1))) (4294967295,0)) fun o1=>some (IntKind.wrap .u32 (4294967295 - o1))
theorem zAY {b_p0 A1 c1 r} (h:pT b_p0=some r):
    Fun Tryz.prog 154 [.slice A1 b_p0.length c1] [.ro (SlL eu8 A1 c1 b_p0)] (Val (.int .u32 r)):=by
 refine Fun.intro Tryz.func154 rfl rfl rfl fun w R=>?_;refine .ab [0] rfl<|.ae rfl<|.seq<|.ae rfl<|.bd h fun o1 hl1 h=>.cu 1 [.s 3 (.int .u32 o1)] [] rfl rfl ?_ ?_
 ·refine .block<|.loopQ hl1 0 (fun (s1:Int × Int) (e1:Unit)=>[0, .s 3 (.int .u32 s1.1), .s 4 (.int .i64 s1.2)]) (fun s1 e1=>[]) rfl rfl () (zb rfl) (fun _ w=>w) ?_;rintro s1 e1 st1 hm1 hd1 h1;refine .seq<|.ab [0,3,4,10] rfl<|.cb h1 rfl (fun h1=>?_) (fun h1=>?_)
  ·refine .sk<|.pr [0,3,4] rfl<|.seq<|.block<|.a 3 rfl<|.bd h1 fun x1 hx1 h1=>.ix1 hx1 0 rfl fun b1 ob1=>.ld ob1 0 0 rfl<|.bf [0,3,4] [] 1 rfl rfl<|.ae rfl<|.bd h1 fun o2 hl2 h1=>.selfThen<|.cu 0 [0, .s 3 (.int .u32 o2),4] [] rfl rfl ?_ ?_
   ·refine .block<|.loopQ hl2 0 (fun (s2:Int × Int) (e3:Unit)=>[0, .s 3 (.int .u32 s2.1),4, .s 5 (.int .i64 s2.2)]) (fun s2 e3=>[]) rfl rfl () (zb rfl) (fun _ w=>w) ?_;rintro s2 e3 st2 hm2 hd2 h2;refine .seq<|.ab [0,3,4,5,21] rfl<|.cb h2 rfl (fun h2=>?_) (fun h2=>?_)
    ·refine .sk<|.pr [0,3,4,5] rfl<|.seq<|.block<|.ab [0,3,4,5,6] rfl<|.ab [0,3,4,5,6] rfl<|.ab [0,3,4,5,29] rfl<|.cb h2 rfl (fun h2=>?_) (fun h2=>?_)
     ·refine .region<|.n 3 rfl<|.done<|.blkN<|.thenN<|.pr [0,3,4,5] rfl<|.region ?_;cases h2;exact .be rfl<|.ag () hm2 rfl zw
     refine .skip<|.blkN<|.thenN<|.pr [0,3,4,5] rfl<|.region ?_;cases h2;exact .be rfl<|.ag () hm2 rfl zw
    refine .xq rfl ?_;cases h2;cases hd2 _ rfl
    exact .thenN<|.hU rfl zw
   refine .blkN<|.thenN<|.region ?_;cases h1;exact .be rfl<|.ag () hm1 rfl zw
  refine .xq rfl ?_;cases h1;cases hd1 _ rfl
  exact .thenN<|.hU rfl (zl [] 1 rfl)
 refine .ab [2] rfl ?_;cases h;exact .rv rfl rfl ⟨rfl,rfl⟩ zw
theorem zTi:Ent Tryz.prog 136:=en Tryz.func136 (by kernel_rfl)
noncomputable def iF (i_p0:zH):Option Int:=
 bnd (pS i_p0) fun r1=>bif !r1 then (some 0) else (bnd (pW i_p0) fun r2=>bnd (pT r2) fun r3=>some r3)
theorem zDW {i_p0 A1 c1 r} (h:iF i_p0=some r):
    Fun Tryz.prog 136 [.agg (xJ i_p0 A1 c1).toArray] [.ro (SlL eu8 A1 c1 i_p0.Data)] (Val (.int .u32 r)):=by
 refine Fun.intro Tryz.func136 rfl rfl rfl fun w R=>?_;refine .seq<|.region<|.box rfl rfl fun g1=>.b [1] rfl<|.seq<|.seq<|.region<|.lb 0 0 rfl<|.bd h fun r1 hr1 h=>.cv [1] (eT hr1) zML rfl<|.b [1,5] rfl<|.cb h rfl (fun h=>?_) (fun h=>?_)
 ·refine .abf [2] [] 2 rfl rfl ?_;cases h;exact .rv rfl rfl ⟨rfl,rfl⟩ zw
 refine .sk<|.pr [1] rfl<|.seq<|.region<|.lb 0 0 rfl<|.bd h fun r2 hr2 h=>.cr 3 [1] [] 0 (zBa hr2) zRh rfl fun A2 c2=>.asrt (fun _ w=>w.meltL)<|.bd h fun r3 hr3 h=>.cv [0] (zAY hr3) zRy rfl<|.bf [2] [] 3 rfl rfl ?_;cases h;exact .rv rfl rfl ⟨rfl,rfl⟩ zw
theorem zXq:Ent Tryz.prog 56:=en Tryz.func56 (by kernel_rfl)
noncomputable def fT (i_p0:zH):Option (zB × Int):=
 bnd (pS i_p0) fun r1=>bif !r1 then (some ((⟨⟨#[]⟩,(⟨(⟨(⟨⟨#[]⟩,(⟨0,0,0⟩:zK), []⟩:zH),0⟩:yB),(⟨(⟨⟨#[]⟩,(⟨0,0,0⟩:zK), []⟩:zH),0⟩:yB)⟩:(rA yB)),0,0,false⟩:zB),1)) else (bnd (jS i_p0) fun r2=>bnd (iF i_p0) fun r3=>some ((⟨i_p0.Name,(⟨(⟨r2,r3⟩:yB),(⟨(⟨⟨#[]⟩,(⟨0,0,0⟩:zK), []⟩:zH),0⟩:yB)⟩:(rA yB)),0,0,false⟩:zB),0))
theorem zLc {i_p0 A1 c1 r} (h:fT i_p0=some r):
    Fun Tryz.prog 56 [.agg (xJ i_p0 A1 c1).toArray] [.ro (SlL eu8 A1 c1 i_p0.Data)] (fun v F=>∃ A2 c2 A3 c3,v= .tuple #[.agg (zN r.1 A2 c2 A3 c3).toArray, .int .i64 r.2]∧F= [.ro (SlL eu8 A2 c2 r.1.Slots.e0.Image.Data), .ro (SlL eu8 A3 c3 r.1.Slots.e1.Image.Data)]):=by
 refine Fun.intro Tryz.func56 rfl rfl rfl fun w R=>?_;refine .seq<|.region<|.box rfl rfl fun g1=>.alloc rfl rfl fun g2=>.b [1,2] rfl<|.seq<|.seq<|.region<|.lb 0 1 rfl<|.bd h fun r1 hr1 h=>.cv [2] (eT hr1) zML rfl<|.b [1,2,7] rfl<|.cb h rfl (fun h=>?_) (fun h=>?_)
 ·refine .a 1 rfl<|.sb 0 0 rfl<|.bf [2,3] [0] 2 rfl rfl<|.asrt (fun _ w=>w.nilSl (cod eu8))<|.asrt (fun _ w=>w.nilSl (cod eu8)) ?_;cases h;exact .rt rfl Tryz.results56 (.cell rfl (.tail _ (.tail _ (.head _))) rfl (.tmp rfl .nil)) rfl ⟨none,0,none,0,rfl,rfl⟩ (zk 2 3 [0,0] [] 0 rfl)
 refine .sk<|.pr [1,2] rfl<|.a 1 rfl<|.lb 0 1 rfl<|.p rfl rfl<|.alloc rfl rfl fun g3=>.sb 0 0 rfl<|.b [1,2,4] rfl<|.seq<|.regionX (iN [1,8,20,7,14,16,24,31] .nil) _ mixed (by kernel_rfl) (zl [] 1 rfl)<|.yx 0 2 rfl<|.yl 0 1 rfl<|.yn 1 rfl<|.xef<|.bd h fun r2 hr2 h=>.cr 5 [3] [] 0 (zHe hr2) zWf rfl fun A2 c2=>.xk (zl [] 2 rfl)<|.bd h fun r3 hr3 h=>.xqc (fun _ h=>h) (zDW hr3) zTi rfl rfl rfl rfl (za [2] rfl)<|.yn 2 rfl<|.xef<|.sb 1 1 rfl<|.xk (zl [] 2 rfl)<|.xdone<|.thenN<|.pf [2,4] [0,0,0] 2 rfl rfl<|.seq<|.region<|.lb 0 0 rfl<|.sb 0 2 rfl<|.bf [2,3] [0] 1 rfl rfl<|.asrt (fun _ w=>w.nilSl (cod eu8)) ?_;cases h;exact .rt rfl Tryz.results56 (.cell rfl (.tail _ (.head _)) rfl (.tmp rfl .nil)) rfl ⟨A2,c2,none,0,rfl,rfl⟩ (zk 2 3 [2,0] [] 0 rfl)
theorem zXE:Ent Tryz.prog 12:=en Tryz.func12 (by kernel_rfl)
noncomputable def sZ (c_p0:xY) (most:Int):Option (xY × (List zB)):=
 bnd (jJ) fun r1=>bnd (zY c_p0 most) fun r2=>bnd (sub r1 0 (IntKind.wrap .i64 (1+r2.2))) fun l1=>bnd (yG (τ:=List zB × List Int × Int) (fun (s1:List zB × Int × List Int × Int)=>bif decide (s1.2.1<(l1.length:Int)) then (bnd (elt l1 s1.2.1) fun x1=>bnd (zY (⟨s1.2.2.1,s1.2.2.2⟩:xY) 5) fun r3=>bnd (zY r3.1 4) fun r4=>bnd (fT (⟨x1,(⟨IntKind.wrap .i64 (1+(IntKind.wrap .i64 (r3.2.tdiv 4))),0,0⟩:zK), [IntKind.wrap .u8 r4.2]⟩:zH)) fun r5=>bnd (app 184 s1.1 [r5.1]) fun l2=>some (.next (l2,IntKind.wrap .i64 (s1.2.1+1),r4.1.L,r4.1.At))) else (some (.done (s1.1,s1.2.2.1,s1.2.2.2)))) ([],0,r2.1.L,r2.1.At)) fun o1=>some ((⟨o1.2.1,o1.2.2⟩:xY),o1.1)
theorem bX {c_p0 most A1 c1 gb1 r} (h:sZ c_p0 most=some r):
    Fun Tryz.prog 12 [.pointer (some ⟨gb1,0,none⟩), .int .i64 most] [.ro (SlL eu8 A1 c1 c_p0.L), .res (Box gb1 127 [.slice A1 c_p0.L.length c1, .int .i64 c_p0.At])] (fun v F=>∃ A2 c2 A3 c3,v= .slice A3 r.2.length c3∧F= [.ro (SlL eu8 A2 c2 r.1.L), .res (Box gb1 127 [.slice A2 r.1.L.length c2, .int .i64 r.1.At]), .res (xK (yL zE) 64 A3 c3 r.2)]):=by
 refine Fun.intro Tryz.func12 rfl rfl rfl fun w R=>?_;refine .ab [0,1] rfl<|.ae rfl<|.seq<|.seq<|.region<|.bd h fun r1 hr1 h=>.cr 3 [] [] 0 (zGW hr1) zXb rfl fun A2 c2=>.n 2 rfl<|.bd h fun r2 hr2 h=>.cr 4 [2] [2] 0 (yA hr2) oZ rfl fun A3 c3=>.p rfl rfl<|.asrt (fun _ w=>(w.sl [2] 0 rfl).meltL)<|.bd h fun l1 hl1 h=>.sub (E:=(cod zWa)) rfl rfl (.head _) rfl rfl rfl rfl rfl rfl rfl hl1 fun A4 c4=>.bf [0,5,15,16,17] [0,1,1] 2 rfl rfl<|.asrt (fun _ w=>w.nilC (yL zE) 64)<|.bd h fun o1 hl1 h=>.cutK 4 (fun (e2:Option Addr × Nat × Option Addr × Nat)=>[.s 5 (.slice e2.1 o1.1.length e2.2.1)]) (fun e2=>[.ro (SlL eu8 e2.2.2.1 e2.2.2.2 o1.2.1), .res (xK (yL zE) 64 e2.1 e2.2.1 o1.1), .res (Box gb1 127 [.slice e2.2.2.1 o1.2.1.length e2.2.2.2, .int .i64 o1.2.2])]) rfl rfl ?_ ?_
 ·refine .block<|.loopQ hl1 4 (fun (s1:List zB × Int × List Int × Int) (e1:Option Addr × Nat × Option Addr × Nat)=>[0, .s 5 (.slice e1.1 s1.1.length e1.2.1),15,16, .s 17 (.int .i64 s1.2.1)]) (fun s1 e1=>[.ro (SlL eu8 e1.2.2.1 e1.2.2.2 s1.2.2.1), .res (xK (yL zE) 64 e1.1 e1.2.1 s1.1),1, .res (Box gb1 127 [.slice e1.2.2.1 s1.2.2.1.length e1.2.2.2, .int .i64 s1.2.2.2])]) rfl rfl (none,0,A3,c3) (zb rfl) (zl [2] 0 rfl) ?_;rintro s1 ⟨A5,c5,A6,c6⟩ st1 hm1 hd1 h1;refine .ae rfl<|.seq<|.cb h1 rfl (fun h1=>?_) (fun h1=>?_)
  ·refine .sk<|.pr [0,5,15,16,17] rfl<|.seq<|.block<|.seq<|.region<|.bd h1 fun x1 hx1 h1=>.ix1 hx1 2 rfl fun b1 ob1=>.ld ob1 0 0 rfl<|.bf [0,5,7,15,16,17] [] 1 rfl rfl<|.a 2 rfl<|.bd h1 fun r3 hr3 h1=>.cr 5 [1] [3] 0 (yA hr3) oZ rfl fun A9 c9=>.n 4 rfl<|.bd h1 fun r4 hr4 h1=>.cr 6 [1] [1] 0 (yA hr4) oZ rfl fun A10 c10=>.p rfl rfl<|.bS rfl fun g1=>.p rfl rfl<|.asrt (fun _ w=>w.litL (E:=eu8) (e:=5) [IntKind.wrap .u8 r4.2] rfl rfl)<|.asrt (fun _ w=>w.meltL)<|.bd h1 fun r5 hr5 h1=>.ct 9 [0] [] 0 (zLc hr5) zXq rfl fun A11 c11 A12 c12=>.n 3 rfl<|.alloc rfl rfl fun g2=>.sb 0 0 rfl<|.bf [0,5,8,15,16,17] [0,0,0,1,1] 3 rfl rfl<|.region<|.p rfl rfl<|.lb 0 0 rfl<|.bS rfl fun g3=>.bd h1 fun l2 hl2 h1=>.appC (E:=(yL zE)) hl2 rfl rfl rfl (.s (.s (.s (.s (.s (.s .z)))))) rfl rfl rfl rfl rfl rfl rfl rfl (zDR (ls:=zE) [(r5.1,((A11,c11),((A12,c12),())))] (.head _) rfl rfl rfl ⟨(zm 2 rfl),(zm 3 rfl),trivial⟩) rfl rfl fun A13 c13=>.p rfl rfl<|.done<|.blkN<|.thenN<|.pf [0,5,15,16,17] [0] 4 rfl rfl<|.region ?_;cases h1;exact .be rfl<|.ag (A13,c13,A10,c10) hm1 rfl (zl [1,0,1] 0 rfl)
  refine .xq rfl ?_;cases h1;cases hd1 _ rfl
  exact .thenN<|.hE (A5,c5,A6,c6) rfl (zl [0,0] 1 rfl)
 rintro ⟨A7,c7,A8,c8⟩;refine .ab [4] rfl ?_;cases h;exact .rv rfl rfl ⟨A8,c8,A7,c7,rfl,rfl⟩ (zk 3 1 [2] [2,1] 0 rfl)
theorem zXy:Ent Tryz.prog 13:=en Tryz.func13 (by kernel_rfl)
noncomputable def jR (c_p0:xY) (l_p1:(List zB)):Option (xY × (List zT)):=
 bnd (zY c_p0 4) fun r1=>bnd (yG (τ:=List zT × List Int × Int) (fun (s1:List zT × Int × List Int × Int)=>bnd ((bif decide (s1.2.1>0) then (some (decide ((l_p1.length:Int)>1))) else (some false):Option Bool)) fun o2=>bif o2 then (bnd (zY (⟨s1.2.2.1,s1.2.2.2⟩:xY) (l_p1.length:Int)) fun r2=>bnd (zY r2.1 (l_p1.length:Int)) fun r3=>bnd (elt l_p1 r2.2) fun x1=>bnd (elt l_p1 r3.2) fun x2=>bnd (zY r3.1 2) fun r4=>bif (r2.2 != r3.2) then (bnd (app 80 s1.1 [(⟨x1.Name,(⟨2,0,0⟩:zK),x2.Name,(⟨IntKind.wrap .i64 (1+r4.2),0,0⟩:zK)⟩:zT)]) fun l1=>some (.next (l1,IntKind.wrap .i64 (s1.2.1 - 1),r4.1.L,r4.1.At))) else (some (.next (s1.1,IntKind.wrap .i64 (s1.2.1 - 1),r4.1.L,r4.1.At)))) else (some (.done (s1.1,s1.2.2.1,s1.2.2.2)))) ([],r1.2,r1.1.L,r1.1.At)) fun o1=>some ((⟨o1.2.1,o1.2.2⟩:xY),o1.1)
theorem zHh {c_p0 l_p1 A1 c1 A2 c2 gb1 r} (h:jR c_p0 l_p1=some r):
    Fun Tryz.prog 13 [.pointer (some ⟨gb1,0,none⟩), .slice A2 l_p1.length c2] [.ro (SlL eu8 A1 c1 c_p0.L), .ro (Sl (yL zE) A2 c2 l_p1), .res (Box gb1 127 [.slice A1 c_p0.L.length c1, .int .i64 c_p0.At])] (fun v F=>∃ A3 c3 A4 c4,v= .slice A4 r.2.length c4∧F= [.ro (SlL eu8 A3 c3 r.1.L), .res (Box gb1 127 [.slice A3 r.1.L.length c3, .int .i64 r.1.At]), .res (zM zR 123 A4 c4 r.2)]):=by
 refine Fun.intro Tryz.func13 rfl rfl rfl fun w R=>?_;refine .ab [0,1] rfl<|.ae rfl<|.seq<|.a 1 rfl<|.bd h fun r1 hr1 h=>.cr 4 [1] [2] 0 (yA hr1) oZ rfl fun A3 c3=>.bf [0,1,5,6] [0,0] 1 rfl rfl<|.asrt (fun _ w=>w.nilL zR 123)<|.bd h fun o1 hl1 h=>.cutK 4 (fun (e2:Option Addr × Nat × Option Addr × Nat)=>[.s 5 (.slice e2.1 o1.1.length e2.2.1)]) (fun e2=>[.ro (SlL eu8 e2.2.2.1 e2.2.2.2 o1.2.1), .res (zM zR 123 e2.1 e2.2.1 o1.1), .res (Box gb1 127 [.slice e2.2.2.1 o1.2.1.length e2.2.2.2, .int .i64 o1.2.2])]) rfl rfl ?_ ?_
 ·refine .block<|.loopQ hl1 3 (fun (s1:List zT × Int × List Int × Int) (e1:Option Addr × Nat × Option Addr × Nat)=>[0,1, .s 5 (.slice e1.1 s1.1.length e1.2.1), .s 6 (.int .i64 s1.2.1)]) (fun s1 e1=>[.ro (SlL eu8 e1.2.2.1 e1.2.2.2 s1.2.2.1), .res (zM zR 123 e1.1 e1.2.1 s1.1), .res (Box gb1 127 [.slice e1.2.2.1 s1.2.2.1.length e1.2.2.2, .int .i64 s1.2.2.2])]) rfl rfl (none,0,A3,c3) (zb rfl) (zl [1] 0 rfl) ?_;rintro s1 ⟨A4,c4,A5,c5⟩ st1 hm1 hd1 h1;refine .seq<|.seq<|.bd h1 fun o2 hj1 h1=>.cu 0 [0,1,5,6, .s 18 (.bool o2)] [] rfl rfl ?_ ?_
  ·refine .region<|.n 3 rfl<|.gs 14 hj1 rfl (fun hj1=>?_) (fun hj1=>?_)
   ·cases hj1;exact .be rfl<|.hU rfl zw
   cases hj1;exact .be rfl<|.hU rfl zw
  refine .cb h1 rfl (fun h1=>?_) (fun h1=>?_)
  ·refine .sk<|.pr [0,1,5,6] rfl<|.seq<|.block<|.a 3 rfl<|.bd h1 fun r2 hr2 h1=>.cr 5 [1] [2] 0 (yA hr2) oZ rfl fun A8 c8=>.n 3 rfl<|.bd h1 fun r3 hr3 h1=>.cr 6 [1] [1] 0 (yA hr3) oZ rfl fun A9 c9=>.bf [0,1,5,6,7,8] [0,0] 2 rfl rfl<|.seq<|.bd h1 fun x1 hx1 h1=>.openN (zm 3 rfl) hx1 fun b1 ob1 ex1 hqb1=>?_;obtain ⟨⟨A10,c10⟩,⟨⟨A11,c11⟩,_⟩⟩:=ex1;refine .nm 7 rfl<|.bd h1 fun x2 hx2 h1=>.openN (zm 6 rfl) hx2 fun b2 ob2 ex2 hqb2=>?_;obtain ⟨⟨A12,c12⟩,⟨⟨A13,c13⟩,_⟩⟩:=ex2;refine .nm 10 rfl<|.bd h1 fun r4 hr4 h1=>.regionX (iN [0,4,8,12,16,20,24,28,32,36,40,44] (.alt (iN [51,52,56,60] (iN [67] (iN [71] .nil))) (iN [67] (iN [51,52,56,60] (iN [71] .nil))))) _ mixed (by kernel_rfl) (zl [0,0,0,0,0,0,0] 1 rfl)<|.shareK (Y:=?Ynd1_0) 8 (fun (e:Nat × Option Addr × Nat)=>[0,1,5,6,7,8, .s 9 (.pointer (some ⟨e.1,0,none⟩)), .s 33 (.string x1.Name), .s 34 (.agg #[.int .i64 2, .int .i64 0, .int .i64 0]), .s 39 (.string x2.Name), .s 41 (.int .i64 r4.2), .s 42 (.int .i64 (IntKind.wrap .i64 (1+r4.2))), .s 43 (.agg #[.int .i64 (IntKind.wrap .i64 (1+r4.2)), .int .i64 0, .int .i64 0]), .s 44 (.agg #[.string x1.Name, .int .i64 2, .int .i64 0, .int .i64 0, .string x2.Name, .int .i64 (IntKind.wrap .i64 (1+r4.2)), .int .i64 0, .int .i64 0])]) (fun e=>[.res (Box e.1 123 [.string (⟨#[]⟩), .int .i64 0, .int .i64 0, .int .i64 0, .string (⟨#[]⟩), .int .i64 0, .int .i64 0, .int .i64 0]), .ro (SlL eu8 e.2.1 e.2.2 r4.1.L), .res (Box gb1 127 [.slice e.2.1 r4.1.L.length e.2.2, .int .i64 r4.1.At]),0,1,2,3,4,5,6]) rfl rfl (fun hnd1_0=>?mnd1_0) ?tnd1_0
   case mnd1_0=>
    refine .yn 2 rfl<|.xfl (fun _ h=>h) (Rd.ixN hqb1 hx1 rfl rfl rfl rfl rfl rfl rfl) rfl<|.yn 1 rfl<|.xfl (fun _ h=>h) (Rd.load ob1 0 rfl (zm 3 rfl) rfl rfl) rfl<|.yn 3 rfl<|.xfl (fun _ h=>h) (Rd.ixN hqb2 hx2 rfl rfl rfl rfl rfl rfl rfl) rfl<|.yn 1 rfl<|.xfl (fun _ h=>h) (Rd.load ob2 0 rfl (.head _) rfl rfl) rfl<|.yn 1 rfl<|.xalt ?_ ?_
    ·refine .xef<|.cr 11 [7] [7] 0 (yA hr4) oZ rfl fun A14 c14=>.xk (zl [] 2 rfl)<|.yn 3 rfl<|.xef<|.alloc rfl rfl fun g1=>.xk (zl [] 3 rfl) ?_;refine hnd1_0 _ _ (g1,A14,c14) ?_ ?_
     ·exact ⟨rfl,rfl,rfl,rfl,rfl,rfl,rfl,rfl,rfl,rfl,rfl,rfl,rfl,rfl,trivial⟩
     exact fun _ w=>w
    refine .xef<|.alloc rfl rfl fun g1=>.xk (zl [1,1,1,1,1,1,1] 2 rfl)<|.xef<|.cr 12 [8] [8] 0 (yA hr4) oZ rfl fun A14 c14=>.xk (zl [] 3 rfl)<|.yn 3 rfl ?_;refine hnd1_0 _ _ (g1,A14,c14) ?_ ?_
    ·exact ⟨rfl,rfl,rfl,rfl,rfl,rfl,rfl,rfl,rfl,rfl,rfl,rfl,rfl,rfl,trivial⟩
    exact fun _ w=>(w.sl [2] 0 rfl)
   case tnd1_0=>
    rintro ⟨g1,A14,c14⟩;refine .nm 12 rfl<|.xef<|.sb 0 0 rfl<|.xk (zl [] 3 rfl)<|.xdone<|.thenN<|.pf [0,1,5,6,7,8,9] [0,0,0] 7 rfl rfl<|.ab [0,1,5,6,9,47] rfl<|.cb h1 rfl (fun h1=>?_) (fun h1=>?_)
    ·refine .region<|.p rfl rfl<|.lb 0 0 rfl<|.bS rfl fun g2=>.bd h1 fun l1 hl1 h1=>.app (E:=zR) hl1 rfl rfl rfl (.s (.s (.s (.s .z)))) rfl rfl rfl rfl rfl rfl rfl rfl (eO (.head _) rfl rfl) rfl rfl fun A15 c15=>.p rfl rfl<|.done<|.blkN<|.thenN<|.pf [0,1,5,6] [0] 2 rfl rfl<|.region ?_;cases h1;exact .be rfl<|.ag (A15,c15,A14,c14) hm1 rfl (zl [1] 0 rfl)
    refine .skip<|.blkN<|.thenN<|.pf [0,1,5,6] [] 1 rfl rfl<|.region ?_;cases h1;exact .be rfl<|.ag (A4,c4,A14,c14) hm1 rfl (zl [0,1] 0 rfl)
  refine .xq rfl ?_;cases h1;cases hd1 _ rfl
  exact .thenN<|.hE (A4,c4,A5,c5) rfl (zl [0,0,0] 1 rfl)
 rintro ⟨A6,c6,A7,c7⟩;refine .ab [4] rfl ?_;cases h;exact .rv rfl rfl ⟨A7,c7,A6,c6,rfl,rfl⟩ (zk 3 1 [2] [2,1] 0 rfl)
theorem zWM:Ent Tryz.prog 227:=en Tryz.func227 (by kernel_rfl)
noncomputable def jU (l_p0:(List zT)):Option Bool:=
 bif decide ((l_p0.length:Int)>16) then (some false) else (bnd (yG (τ:=Bool ⊕ Unit) (fun (s1:Int)=>bif decide (s1<(l_p0.length:Int)) then (bnd ((bnd (elt l_p0 s1) fun x1=>bnd (nL x1.Component) fun r1=>bif !r1 then (some true) else (bnd (nL x1.On) fun r2=>bif !r2 then (some true) else (bif (x1.Component.toList==x1.On.toList) then (some true) else (bnd (pR x1.From) fun r3=>bif !r3 then (some true) else (bnd (pR x1.At) fun r4=>some (!r4))))):Option Bool)) fun o3=>bif o3 then (some (.done (.inl false))) else (some (.next (IntKind.wrap .i64 (s1+1))))) else (some (.done (.inr ())))) 0) fun o1=>wT o1 fun o2=>some true)
theorem zHj {l_p0 A1 c1 r} (h:jU l_p0=some r):
    Fun Tryz.prog 227 [.slice A1 l_p0.length c1] [.ro (SlL zR A1 c1 l_p0)] (Val (.bool r)):=by
 refine Fun.intro Tryz.func227 rfl rfl rfl fun w R=>?_;refine .ab [0] rfl<|.seq<|.ab [0,6] rfl<|.cb h rfl (fun h=>?_) (fun h=>?_)
 ·refine .abf [2] [] 1 rfl rfl ?_;cases h;exact .rv rfl rfl ⟨rfl,rfl⟩ zw
 refine .sk<|.pr [0] rfl<|.seq<|.ae rfl<|.bd h fun o1 hl1 h=>.cutJ 1 (fun (o2:Unit) (e2:Unit)=>[]) (fun o2 e2=>[]) rfl rfl (fun o2=>o1= .inr o2) ?_ ?_
 ·refine .block<|.loopQ hl1 0 (fun (s1:Int) (e1:Unit)=>[0, .s 3 (.int .i64 s1)]) (fun s1 e1=>[]) rfl rfl () (zb rfl) (fun _ w=>w) ?_;rintro s1 e1 st1 hm1 hd1 h1;refine .seq<|.ab [0,3,10] rfl<|.cb h1 rfl (fun h1=>?_) (fun h1=>?_)
  ·refine .sk<|.pr [0,3] rfl<|.seq<|.block<|.seq<|.bd h1 fun o3 hj1 h1=>.cu 0 [0,3, .s 59 (.bool o3)] [] rfl rfl ?_ ?_
   ·refine .regionF mixed (by kernel_rfl)<|.n 2 rfl<|.bd hj1 fun x1 hx1 hj1=>.ix1 hx1 0 rfl fun b1 ob1=>.p rfl rfl<|.ld ob1 0 0 rfl<|.bd hj1 fun r1 hr1 hj1=>.cv [] (cR hr1) zMb rfl<|.n 2 rfl<|.gs 20 hj1 rfl (fun hj1=>?_) (fun hj1=>?_)
    ·cases hj1;exact .beq rfl<|.hU rfl (zl [] 1 rfl)
    refine .n 2 rfl<|.gOn rfl rfl<|.ix1 hx1 1 rfl fun b2 ob2=>.n 1 rfl<|.gOn rfl rfl<|.ld ob2 4 0 rfl<|.gOn rfl rfl<|.bd hj1 fun r2 hr2 hj1=>.cv [] (cR hr2) zMb rfl<|.n 3 rfl<|.gs 29 hj1 rfl (fun hj1=>?_) (fun hj1=>?_)
    ·cases hj1;exact .beq rfl<|.hU rfl (zl [] 2 rfl)
    refine .n 2 rfl<|.gOn rfl rfl<|.ix1 hx1 2 rfl fun b3 ob3=>.n 1 rfl<|.gOn rfl rfl<|.ld ob3 0 0 rfl<|.n 2 rfl<|.gOn rfl rfl<|.ix1 hx1 3 rfl fun b4 ob4=>.n 1 rfl<|.gOn rfl rfl<|.ld ob4 4 0 rfl<|.n 3 rfl<|.gs 42 hj1 rfl (fun hj1=>?_) (fun hj1=>?_)
    ·cases hj1;exact .beq rfl<|.hU rfl (zl [] 4 rfl)
    refine .n 2 rfl<|.gOn rfl rfl<|.ix1 hx1 4 rfl fun b5 ob5=>.n 1 rfl<|.gOn rfl rfl<|.ld ob5 1 0 rfl<|.gOn rfl rfl<|.bd hj1 fun r3 hr3 hj1=>.cv [] (eY hr3) zNm rfl<|.n 3 rfl<|.gs 51 hj1 rfl (fun hj1=>?_) (fun hj1=>?_)
    ·cases hj1;exact .beq rfl<|.hU rfl (zl [] 5 rfl)
    refine .n 2 rfl<|.gOn rfl rfl<|.ix1 hx1 5 rfl fun b6 ob6=>.n 1 rfl<|.gOn rfl rfl<|.ld ob6 5 0 rfl<|.gOn rfl rfl<|.bd hj1 fun r4 hr4 hj1=>.cv [] (eY hr4) zNm rfl ?_;cases hj1;exact .beq rfl<|.hU rfl (zl [] 6 rfl)
   refine .cb h1 rfl (fun h1=>?_) (fun h1=>?_)
   ·refine .abf [2] [] 1 rfl rfl ?_;cases h1;cases hd1 _ rfl
    have h:some _=some _:=h;cases h;exact .rv rfl rfl ⟨rfl,rfl⟩ zw
   refine .skip<|.blkN<|.thenN<|.pr [0,3] rfl<|.region ?_;cases h1;exact .be rfl<|.ag () hm1 rfl zw
  refine .xq rfl ?_;cases h1;cases hd1 _ rfl
  exact .thenN<|.hereI () () rfl trivial (zl [] 1 rfl)
 rintro o2 e2 ho;subst ho;have h:=unR h;refine .ae rfl ?_;cases h;exact .rv rfl rfl ⟨rfl,rfl⟩ zw
theorem zVQ:Ent Tryz.prog 149:=en Tryz.func149 (by kernel_rfl)
noncomputable def jN (b_p0:zX):Option Int:=
 bnd ((bif decide ((b_p0.Images.length:Int)<1) then (some true) else (some (decide ((b_p0.Images.length:Int)>8))):Option Bool)) fun o1=>bif o1 then (some 2) else (bnd (yG (τ:=Int ⊕ Unit) (fun (s1:Int)=>bif decide (s1<(b_p0.Images.length:Int)) then (bnd (elt b_p0.Images s1) fun x1=>bnd (pS x1) fun r1=>bif !r1 then (some (.done (.inl 1))) else (bnd ((bif decide (s1>0) then (bnd (elt b_p0.Images (IntKind.wrap .i64 (s1 - 1))) fun x2=>some (!(Op.bytesLess x2.Name.toList x1.Name.toList))) else (some false):Option Bool)) fun o4=>bif o4 then (some (.done (.inl 7))) else (some (.next (IntKind.wrap .i64 (s1+1)))))) else (some (.done (.inr ())))) 0) fun o2=>wT o2 fun o3=>bif decide ((b_p0.Needs.length:Int)>16) then (some 3) else (bnd (jU b_p0.Needs) fun r2=>bif !r2 then (some 1) else (some 0)))
theorem zHa {b_p0 A1 c1 A2 c2 r} (h:jN b_p0=some r):
    Fun Tryz.prog 149 [.agg #[.slice A1 b_p0.Images.length c1, .slice A2 b_p0.Needs.length c2]] [.ro (Sl (yL xC) A1 c1 b_p0.Images), .ro (SlL zR A2 c2 b_p0.Needs)] (Val (.int .i64 r)):=by
 refine Fun.intro Tryz.func149 rfl rfl rfl fun w R=>?_;refine .seq<|.region<|.box rfl rfl fun g1=>.b [1] rfl<|.seq<|.seq<|.bd h fun o1 hj1 h=>.cu 0 [1, .s 13 (.bool o1)] [] rfl rfl ?_ ?_
 ·refine .region<|.p rfl rfl<|.lb 0 0 rfl<|.n 3 rfl<|.gs 8 hj1 rfl (fun hj1=>?_) (fun hj1=>?_)
  ·cases hj1;exact .be rfl<|.hU rfl zw
  refine .n 1 rfl<|.gOn rfl rfl<|.lb 0 0 rfl ?_;cases hj1;exact .be rfl<|.hU rfl zw
 refine .cb h rfl (fun h=>?_) (fun h=>?_)
 ·refine .abf [2] [] 3 rfl rfl ?_;cases h;exact .rv rfl rfl ⟨rfl,rfl⟩ zw
 refine .sk<|.pr [1] rfl<|.seq<|.ae rfl<|.bd h fun o2 hl1 h=>.cutJ 0 (fun (o3:Unit) (e3:Unit)=>[1]) (fun o3 e3=>[]) rfl rfl (fun o3=>o2= .inr o3) ?_ ?_
 ·refine .block<|.loopQ hl1 0 (fun (s1:Int) (e2:Unit)=>[1, .s 3 (.int .i64 s1)]) (fun s1 e2=>[]) rfl rfl () (zb rfl) (fun _ w=>w) ?_;rintro s1 e2 st1 hm1 hd1 h1;refine .seq<|.a 2 rfl<|.lb 0 0 rfl<|.b [1,3,18] rfl<|.cb h1 rfl (fun h1=>?_) (fun h1=>?_)
  ·refine .sk<|.pr [1,3] rfl<|.seq<|.block<|.seq<|.a 1 rfl<|.lb 0 0 rfl<|.p rfl rfl<|.bd h1 fun x1 hx1 h1=>.ix3 hx1 1 rfl fun b1 ob1 ex1=>?_;obtain ⟨⟨A3,c3⟩,_⟩:=ex1;refine .nm 5 rfl<|.ld ob1 0 0 rfl<|.bd h1 fun r1 hr1 h1=>.cv [1] (eT hr1) zML rfl<|.bf [1,3,27] [] 2 rfl rfl<|.cb h1 rfl (fun h1=>?_) (fun h1=>?_)
   ·refine .abf [2] [] 3 rfl rfl ?_;cases h1;cases hd1 _ rfl
    have h:some _=some _:=h;cases h;exact .rv rfl rfl ⟨rfl,rfl⟩ zw
   refine .sk<|.pr [1,3] rfl<|.seq<|.bd h1 fun o4 hj2 h1=>.cu 0 [1,3, .s 45 (.bool o4)] [] rfl rfl ?_ ?_
   ·refine .regionF mixed (by kernel_rfl)<|.n 3 rfl<|.gs 30 hj2 rfl (fun hj2=>?_) (fun hj2=>?_)
    ·refine .n 1 rfl<|.gOn rfl rfl<|.lb 0 0 rfl<|.n 2 rfl<|.gOn rfl rfl<|.bd hj2 fun x2 hx2 hj2=>.ix3 hx2 1 rfl fun b2 ob2 ex2=>?_;obtain ⟨⟨A4,c4⟩,_⟩:=ex2;refine .nm 5 rfl<|.n 1 rfl<|.gOn rfl rfl<|.ld ob2 0 0 rfl<|.n 1 rfl<|.gOn rfl rfl<|.lb 0 2 rfl<|.n 1 rfl<|.gOn rfl rfl<|.ix3 hx1 3 rfl fun b3 ob3 ex3=>?_;obtain ⟨⟨A5,c5⟩,_⟩:=ex3;refine .nm 7 rfl<|.n 1 rfl<|.gOn rfl rfl<|.ld ob3 0 0 rfl ?_;cases hj2;exact .beq rfl<|.hU rfl (zl [] 4 rfl)
    cases hj2;exact .beq rfl<|.hU rfl zw
   refine .cb h1 rfl (fun h1=>?_) (fun h1=>?_)
   ·refine .abf [2] [] 3 rfl rfl ?_;cases h1;cases hd1 _ rfl
    have h:some _=some _:=h;cases h;exact .rv rfl rfl ⟨rfl,rfl⟩ zw
   refine .skip<|.blkN<|.thenN<|.pr [1,3] rfl<|.region ?_;cases h1;exact .be rfl<|.ag () hm1 rfl zw
  refine .xq rfl ?_;cases h1;cases hd1 _ rfl
  exact .thenN<|.hereI () () rfl (zb rfl) zw
 rintro o3 e3 ho;subst ho;have h:=unR h;refine .seq<|.block<|.a 1 rfl<|.lb 1 0 rfl<|.b [1,46] rfl<|.cb h rfl (fun h=>?_) (fun h=>?_)
 ·refine .abf [2] [] 3 rfl rfl ?_;cases h;exact .rv rfl rfl ⟨rfl,rfl⟩ zw
 refine .a 1 rfl<|.lb 1 0 rfl<|.bd h fun r2 hr2 h=>.cv [2] (zHj hr2) zWM rfl<|.bf [51] [] 3 rfl rfl<|.cb h rfl (fun h=>?_) (fun h=>?_)
 ·refine .ab [2] rfl ?_;cases h;exact .rv rfl rfl ⟨rfl,rfl⟩ zw
 refine .skip<|.blkN<|.thenN<|.pr [] rfl<|.ae rfl ?_;cases h;exact .rv rfl rfl ⟨rfl,rfl⟩ zw
theorem zSi:Ent Tryz.prog 151:=en Tryz.func151 (by kernel_rfl)
noncomputable def lN (n_p0:Int):Option (List Int):=
 some ([IntKind.wrap .u8 (uD .u32 n_p0 24),IntKind.wrap .u8 (uD .u32 n_p0 16),IntKind.wrap .u8 (uD .u32 n_p0 8),IntKind.wrap .u8 n_p0])
theorem zBL {n_p0 r} (h:lN n_p0=some r):
    Fun Tryz.prog 151 [.int .u32 n_p0] [] (fun v F=>∃ A1 c1,v= .slice A1 r.length c1∧F= [.res (zM eu8 5 A1 c1 r)]):=by
 unfold lN at h
 refine Fun.intro Tryz.func151 rfl rfl rfl fun w R=>?_;refine .ab [0] rfl<|.a 11 rfl<|.bS rfl fun g1=>.b [2] rfl<|.asrt (fun _ w=>w.litL (E:=eu8) (e:=5) [IntKind.wrap .u8 (uD .u32 n_p0 24),IntKind.wrap .u8 (uD .u32 n_p0 16),IntKind.wrap .u8 (uD .u32 n_p0 8),IntKind.wrap .u8 n_p0] rfl rfl) ?_;cases h;exact .rv rfl rfl ⟨(some ⟨g1,0,none⟩),([IntKind.wrap .u8 (uD .u32 n_p0 24),IntKind.wrap .u8 (uD .u32 n_p0 16),IntKind.wrap .u8 (uD .u32 n_p0 8),IntKind.wrap .u8 n_p0]:List Int).length,rfl,rfl⟩ zw
theorem zXD:Ent Tryz.prog 68:=en Tryz.func68 (by kernel_rfl)
noncomputable def kC (b_p0:zX):Option ((List Int) × Int):=
 bnd (jN b_p0) fun r1=>bif (r1 != 0) then (some ([],r1)) else (bnd (app 1 ([66,77,67,70]) [IntKind.wrap .u8 (b_p0.Images.length:Int)]) fun l1=>bnd (yG (τ:=List Int) (fun (s1:List Int × Int)=>bif decide (s1.2<(b_p0.Images.length:Int)) then (bnd (elt b_p0.Images s1.2) fun x1=>bnd (pW x1) fun r2=>bnd (app 1 s1.1 r2) fun l2=>bnd (iF x1) fun r3=>bnd (lN r3) fun r4=>bnd (app 1 l2 r4) fun l3=>some (.next (l3,IntKind.wrap .i64 (s1.2+1)))) else (some (.done s1.1))) (l1,0)) fun o1=>bnd (app 1 o1 [IntKind.wrap .u8 (b_p0.Needs.length:Int)]) fun l4=>bnd (yG (τ:=List Int) (fun (s2:List Int × Int)=>bif decide (s2.2<(b_p0.Needs.length:Int)) then (bnd (elt b_p0.Needs s2.2) fun x2=>bnd (pE x2.Component) fun r5=>bnd (app 1 s2.1 r5) fun l5=>bnd (uO x2.From) fun r6=>bnd (app 1 l5 r6) fun l6=>bnd (pE x2.On) fun r7=>bnd (app 1 l6 r7) fun l7=>bnd (uO x2.At) fun r8=>bnd (app 1 l7 r8) fun l8=>some (.next (l8,IntKind.wrap .i64 (s2.2+1)))) else (some (.done s2.1))) (l4,0)) fun o2=>bnd (pT o2) fun r9=>bnd (lN r9) fun r10=>bnd (app 1 o2 r10) fun l9=>bif decide ((l9.length:Int)>8192) then (some ([],3)) else (some (l9,0)))
theorem zFK {b_p0 A1 c1 A2 c2 r} (h:kC b_p0=some r):
    Fun Tryz.prog 68 [.agg #[.slice A1 b_p0.Images.length c1, .slice A2 b_p0.Needs.length c2]] [.ro (Sl (yL xC) A1 c1 b_p0.Images), .ro (SlL zR A2 c2 b_p0.Needs)] (fun v F=>∃ A3 c3,v= .tuple #[.slice A3 r.1.length c3, .int .i64 r.2]∧F= [.res (zM eu8 5 A3 c3 r.1)]):=by
 refine Fun.intro Tryz.func68 rfl rfl rfl fun w R=>?_;refine .seq<|.region<|.box rfl rfl fun g1=>.b [1] rfl<|.seq<|.seq<|.region<|.lb 0 0 rfl<|.bd h fun r1 hr1 h=>.cv [1,2] (zHa hr1) zVQ rfl<|.b [1,4] rfl<|.ab [1,4,12] rfl<|.cb h rfl (fun h=>?_) (fun h=>?_)
 ·refine .abf [2,3] [] 3 rfl rfl<|.asrt (fun _ w=>w.nilL eu8 5) ?_;cases h;exact .rv rfl rfl ⟨none,0,rfl,rfl⟩ zw
 refine .sk<|.pr [1] rfl<|.seq<|.region<|.buildSlice0 rfl rfl rfl rfl rfl rfl rfl rfl fun g2=>.markB rfl rfl rfl rfl rfl rfl<|.p rfl rfl<|.lb 0 1 rfl<|.n 2 rfl<|.bS rfl fun g3=>.asrt (fun _ w=>(w.sl [1] 0 rfl).litL (E:=eu8) (e:=5) [66,77,67,70] rfl rfl)<|.bd h fun l1 hl1 h=>.app (E:=eu8) hl1 rfl rfl rfl .z rfl rfl rfl rfl rfl rfl rfl rfl (eO (.tail _ (.head _)) rfl rfl) rfl rfl fun A3 c3=>.bf [1,5] [0] 1 rfl rfl<|.seq<|.ae rfl<|.bd h fun o1 hl1 h=>.cutK 1 (fun (e2:Option Addr × Nat)=>[1, .s 5 (.slice e2.1 o1.length e2.2)]) (fun e2=>[.res (zM eu8 5 e2.1 e2.2 o1)]) rfl rfl ?_ ?_
 ·refine .block<|.loopQ hl1 1 (fun (s1:List Int × Int) (e1:Option Addr × Nat)=>[1, .s 5 (.slice e1.1 s1.1.length e1.2), .s 6 (.int .i64 s1.2)]) (fun s1 e1=>[.res (zM eu8 5 e1.1 e1.2 s1.1)]) rfl rfl (A3,c3) (zb rfl) (fun _ w=>w) ?_;rintro s1 ⟨A4,c4⟩ st1 hm1 hd1 h1;refine .seq<|.a 2 rfl<|.lb 0 1 rfl<|.b [1,5,6,26] rfl<|.cb h1 rfl (fun h1=>?_) (fun h1=>?_)
  ·refine .sk<|.pr [1,5,6] rfl<|.seq<|.block<|.bd h1 fun x1 hx1 h1=>.openN (zm 2 rfl) hx1 fun b1 ob1 ex1 hqb1=>?_;obtain ⟨⟨A6,c6⟩,_⟩:=ex1;refine .nm 6 rfl<|.regionX (iN [0,4,9,12,17,21,32,36,40,44,48,27,31,54,59,63,64] .nil) _ mixed (by kernel_rfl) (zl [0,0] 1 rfl)<|.yn 2 rfl<|.yx 0 3 rfl<|.yn 1 rfl<|.xfx (Rd.ixN hqb1 hx1 rfl rfl rfl rfl rfl rfl rfl) rfl<|.xfx (Rd.load ob1 0 rfl (.head _) rfl rfl) rfl<|.yn 1 rfl<|.yl 0 2 rfl<|.yn 1 rfl<|.xfl (fun _ h=>h) (Rd.ixN hqb1 hx1 rfl rfl rfl rfl rfl rfl rfl) rfl<|.xfl (fun _ h=>h) (Rd.load ob1 0 rfl (.head _) rfl rfl) rfl<|.xef<|.bd h1 fun r2 hr2 h1=>.cr 7 [1] [] 0 (zBa hr2) zRh rfl fun A7 c7=>.xk (zl [1,1] 2 rfl)<|.xef<|.asrt (fun _ w=>w.meltL)<|.bd h1 fun l2 hl2 h1=>.app (E:=eu8) hl2 rfl rfl rfl (.s (.s (.s .z))) rfl rfl rfl rfl rfl rfl rfl rfl (fB (.head _)) rfl rfl fun A8 c8=>.xk (zl [] 2 rfl)<|.bd h1 fun r3 hr3 h1=>.xqc (fun _ h=>h) (zDW hr3) zTi rfl rfl rfl rfl (za [1] rfl)<|.xef<|.bd h1 fun r4 hr4 h1=>.cr 8 [] [] 0 (zBL hr4) zSi rfl fun A9 c9=>.xk (zl [] 3 rfl)<|.xef<|.asrt (fun _ w=>w.meltL)<|.bd h1 fun l3 hl3 h1=>.app (E:=eu8) hl3 rfl rfl rfl (.s .z) rfl rfl rfl rfl rfl rfl rfl rfl (fB (.head _)) rfl rfl fun A10 c10=>.xk (zl [] 3 rfl)<|.yn 1 rfl<|.xdone<|.blkN<|.thenN<|.pf [1,5,6] [0] 4 rfl rfl<|.region ?_;cases h1;exact .be rfl<|.ag (A10,c10) hm1 rfl zw
  refine .xq rfl ?_;cases h1;cases hd1 _ rfl
  exact .thenN<|.hE (A4,c4) rfl zw
 rintro ⟨A5,c5⟩;refine .a 2 rfl<|.lb 1 1 rfl<|.n 2 rfl<|.bS rfl fun g4=>.bd h fun l4 hl4 h=>.app (E:=eu8) hl4 rfl rfl rfl (.s .z) rfl rfl rfl rfl rfl rfl rfl rfl (eO (.head _) rfl rfl) rfl rfl fun A11 c11=>.bf [1,5] [0] 1 rfl rfl<|.seq<|.ae rfl<|.bd h fun o2 hl2 h=>.cutK 4 (fun (e4:Option Addr × Nat)=>[.s 5 (.slice e4.1 o2.length e4.2)]) (fun e4=>[.res (zM eu8 5 e4.1 e4.2 o2)]) rfl rfl ?_ ?_
 ·refine .block<|.loopQ hl2 1 (fun (s2:List Int × Int) (e3:Option Addr × Nat)=>[1, .s 5 (.slice e3.1 s2.1.length e3.2), .s 7 (.int .i64 s2.2)]) (fun s2 e3=>[.res (zM eu8 5 e3.1 e3.2 s2.1)]) rfl rfl (A11,c11) (zb rfl) (fun _ w=>w) ?_;rintro s2 ⟨A12,c12⟩ st2 hm2 hd2 h2;refine .seq<|.a 2 rfl<|.lb 1 1 rfl<|.b [1,5,7,56] rfl<|.cb h2 rfl (fun h2=>?_) (fun h2=>?_)
  ·refine .sk<|.pr [1,5,7] rfl<|.seq<|.block<|.a 1 rfl<|.lb 1 1 rfl<|.p rfl rfl<|.bd h2 fun x2 hx2 h2=>.ix1 hx2 3 rfl fun b2 ob2=>.ld ob2 0 0 rfl<|.alloc rfl rfl fun g5=>.sb 0 0 rfl<|.bf [1,5,7,8] [0] 1 rfl rfl<|.seq<|.regionX (iN [0,4,9,20,24,15,19,31,35,36] .nil) _ mixed (by kernel_rfl) (zl [0] 1 rfl)<|.yn 2 rfl<|.yx 0 0 rfl<|.yn 1 rfl<|.yl 1 0 rfl<|.xef<|.bd h2 fun r5 hr5 h2=>.cr 6 [] [] 0 (cY hr5) zMu rfl fun A14 c14=>.xk (zl [1] 2 rfl)<|.xef<|.asrt (fun _ w=>w.meltL)<|.bd h2 fun l5 hl5 h2=>.app (E:=eu8) hl5 rfl rfl rfl (.s (.s .z)) rfl rfl rfl rfl rfl rfl rfl rfl (fB (.head _)) rfl rfl fun A15 c15=>.xk (zl [] 2 rfl)<|.xef<|.bd h2 fun r6 hr6 h2=>.cr 7 [] [] 0 (iM hr6) zNn rfl fun A16 c16=>.xk (zl [] 3 rfl)<|.xef<|.asrt (fun _ w=>w.meltL)<|.bd h2 fun l6 hl6 h2=>.app (E:=eu8) hl6 rfl rfl rfl (.s .z) rfl rfl rfl rfl rfl rfl rfl rfl (fB (.head _)) rfl rfl fun A17 c17=>.xk (zl [] 3 rfl)<|.yn 1 rfl<|.xdone<|.thenN<|.pf [1,5,7,8] [0] 2 rfl rfl<|.regionX (iN [0,4,9,20,24,15,19,31,35,36] .nil) _ mixed (by kernel_rfl) (zl [] 1 rfl)<|.yn 2 rfl<|.yx 4 1 rfl<|.yn 1 rfl<|.yl 5 0 rfl<|.xef<|.bd h2 fun r7 hr7 h2=>.cr 6 [] [] 0 (cY hr7) zMu rfl fun A18 c18=>.xk (zl [] 2 rfl)<|.xef<|.asrt (fun _ w=>w.meltL)<|.bd h2 fun l7 hl7 h2=>.app (E:=eu8) hl7 rfl rfl rfl (.s .z) rfl rfl rfl rfl rfl rfl rfl rfl (fB (.head _)) rfl rfl fun A19 c19=>.xk (zl [] 2 rfl)<|.xef<|.bd h2 fun r8 hr8 h2=>.cr 7 [] [] 0 (iM hr8) zNn rfl fun A20 c20=>.xk (zl [] 3 rfl)<|.xef<|.asrt (fun _ w=>w.meltL)<|.bd h2 fun l8 hl8 h2=>.app (E:=eu8) hl8 rfl rfl rfl (.s .z) rfl rfl rfl rfl rfl rfl rfl rfl (fB (.head _)) rfl rfl fun A21 c21=>.xk (zl [] 3 rfl)<|.yn 1 rfl<|.xdone<|.blkN<|.thenN<|.pf [1,5,7] [0] 3 rfl rfl<|.region ?_;cases h2;exact .be rfl<|.ag (A21,c21) hm2 rfl zw
  refine .xq rfl ?_;cases h2;cases hd2 _ rfl
  exact .thenN<|.hE (A12,c12) rfl (zl [0] 3 rfl)
 rintro ⟨A13,c13⟩;refine .a 2 rfl<|.bd h fun r9 hr9 h=>.callL (zAY hr9) zRy rfl rfl rfl rfl (gX.own (.head _) gX.nil) (fun _ _ h=>by rw [h.2]; exact True.intro) ?_;rintro _ _ ⟨rfl,rfl⟩;refine .nm 1 rfl<|.bd h fun r10 hr10 h=>.cr 2 [] [] 0 (zBL hr10) zSi rfl fun A22 c22=>.asrt (fun _ w=>w.meltL)<|.bd h fun l9 hl9 h=>.app (E:=eu8) hl9 rfl rfl rfl (.s .z) rfl rfl rfl rfl rfl rfl rfl rfl (fB (.head _)) rfl rfl fun A23 c23=>.bf [5] [0] 1 rfl rfl<|.seq<|.ab [5,89] rfl<|.cb h rfl (fun h=>?_) (fun h=>?_)
 ·refine .abf [2,3] [] 1 rfl rfl<|.asrt (fun _ w=>w.nilL eu8 5) ?_;cases h;exact .rv rfl rfl ⟨none,0,rfl,rfl⟩ zw
 refine .sk<|.pr [5] rfl<|.ab [2,3] rfl ?_;cases h;exact .rv rfl rfl ⟨A23,c23,rfl,rfl⟩ zw
theorem zWY:Ent Tryz.prog 17:=en Tryz.func17 (by kernel_rfl)
noncomputable def jQ (c_p0:xY) (l_p1:(List zB)) (needs:(List zT)):Option (xY × (List Int)):=
 bnd (yG (τ:=List zH × List Int × Int) (fun (s1:Int × List zH × List Int × Int)=>bif decide (s1.1<(l_p1.length:Int)) then (bnd (elt l_p1 s1.1) fun x1=>bnd (zY (⟨s1.2.2.1,s1.2.2.2⟩:xY) 5) fun r1=>bif decide (r1.2<4) then (bnd (zY r1.1 6) fun r2=>bnd (zY r2.1 256) fun r3=>bnd (app 64 s1.2.1 [(⟨x1.Name,(⟨IntKind.wrap .i64 (1+((IntKind.wrap .i64 (r2.2.tdiv 2)).tmod 3)),0,0⟩:zK), [IntKind.wrap .u8 r3.2]⟩:zH)]) fun l1=>some (.next (IntKind.wrap .i64 (s1.1+1),l1,r3.1.L,r3.1.At))) else (some (.next (IntKind.wrap .i64 (s1.1+1),s1.2.1,r1.1.L,r1.1.At)))) else (some (.done (s1.2.1,s1.2.2.1,s1.2.2.2)))) (0, [],c_p0.L,c_p0.At)) fun o1=>bnd (yG (τ:=List zT × List Int × Int) (fun (s2:Int × List zT × List Int × Int)=>bif decide (s2.1<(needs.length:Int)) then (bnd (elt needs s2.1) fun x2=>bnd (zY (⟨s2.2.2.1,s2.2.2.2⟩:xY) 2) fun r4=>bif (r4.2==0) then (bnd (app 80 s2.2.1 [x2]) fun l2=>some (.next (IntKind.wrap .i64 (s2.1+1),l2,r4.1.L,r4.1.At))) else (some (.next (IntKind.wrap .i64 (s2.1+1),s2.2.1,r4.1.L,r4.1.At)))) else (some (.done (s2.2.1,s2.2.2.1,s2.2.2.2)))) (0, [],o1.2.1,o1.2.2)) fun o2=>bnd ((bnd (zY (⟨o2.2.1,o2.2.2⟩:xY) 16) fun r5=>bif (r5.2==15) then (bnd (app 64 o1.1 [(⟨⟨#[122,122,122]⟩,(⟨1,0,0⟩:zK), [1]⟩:zH)]) fun l3=>some (l3,o2.1,r5.1.L,r5.1.At)) else (bif (r5.2==14) then (bnd (app 80 o2.1 [(⟨⟨#[97]⟩,(⟨0,0,0⟩:zK),⟨#[98]⟩,(⟨0,0,0⟩:zK)⟩:zT)]) fun l4=>some (o1.1,l4,r5.1.L,r5.1.At)) else (some (o1.1,o2.1,r5.1.L,r5.1.At))):Option (List zH × List zT × List Int × Int))) fun o3=>bnd (kC (⟨o3.1,o3.2.1⟩:zX)) fun r6=>bnd ((bnd (zY (⟨o3.2.2.1,o3.2.2.2⟩:xY) 16) fun r7=>bif (r7.2==15) then (some (decide ((r6.1.length:Int)>0),r7.1.L,r7.1.At)) else (some (false,r7.1.L,r7.1.At)):Option (Bool × List Int × Int))) fun o4=>bif o4.1 then (bnd (zY (⟨o4.2.1,o4.2.2⟩:xY) (r6.1.length:Int)) fun r8=>bnd (elt r6.1 r8.2) fun x3=>bnd (tH r6.1 r8.2 (IntKind.wrap .u8 (x3+1))) fun l5=>some (r8.1,l5)) else (some ((⟨o4.2.1,o4.2.2⟩:xY),r6.1))
theorem zGT {c_p0 l_p1 needs A1 c1 A2 c2 A3 c3 gb1 r} (h:jQ c_p0 l_p1 needs=some r):
    Fun Tryz.prog 17 [.pointer (some ⟨gb1,0,none⟩), .slice A2 l_p1.length c2, .slice A3 needs.length c3] [.ro (SlL eu8 A1 c1 c_p0.L), .ro (Sl (yL zE) A2 c2 l_p1), .ro (SlL zR A3 c3 needs), .res (Box gb1 127 [.slice A1 c_p0.L.length c1, .int .i64 c_p0.At])] (fun v F=>∃ A4 c4 A5 c5,v= .slice A5 r.2.length c5∧F= [.ro (SlL eu8 A4 c4 r.1.L), .res (Box gb1 127 [.slice A4 r.1.L.length c4, .int .i64 r.1.At]), .res (zM eu8 5 A5 c5 r.2)]):=by
 refine Fun.intro Tryz.func17 rfl rfl rfl fun w R=>?_;refine .ab [0,1,2] rfl<|.seq<|.region<|.alloc rfl rfl fun g1=>.done<|.thenN<|.seq<|.ab [0,2,7,14,15,16] rfl<|.asrt (fun _ w=>w.nilC (yL xC) 58)<|.bd h fun o1 hl1 h=>.cutK 6 (fun (e2:Option Addr × Nat × Option Addr × Nat)=>[0,2,7]) (fun e2=>[.ro (SlL eu8 e2.2.2.1 e2.2.2.2 o1.2.1), .res (xK (yL xC) 58 e2.1 e2.2.1 o1.1), .res (Box g1 46 [.slice e2.1 o1.1.length e2.2.1, .slice none 0 0]),4, .res (Box gb1 127 [.slice e2.2.2.1 o1.2.1.length e2.2.2.2, .int .i64 o1.2.2])]) rfl rfl ?_ ?_
 ·refine .block<|.loopQ hl1 6 (fun (s1:Int × List zH × List Int × Int) (e1:Option Addr × Nat × Option Addr × Nat)=>[0,2,7,14,15, .s 16 (.int .i64 s1.1)]) (fun s1 e1=>[.ro (SlL eu8 e1.2.2.1 e1.2.2.2 s1.2.2.1), .res (xK (yL xC) 58 e1.1 e1.2.1 s1.2.1), .res (Box g1 46 [.slice e1.1 s1.2.1.length e1.2.1, .slice none 0 0]),3,4, .res (Box gb1 127 [.slice e1.2.2.1 s1.2.2.1.length e1.2.2.2, .int .i64 s1.2.2.2])]) rfl rfl (none,0,A1,c1) (zb rfl) (zl [2] 0 rfl) ?_;rintro s1 ⟨A4,c4,A5,c5⟩ st1 hm1 hd1 h1;refine .ae rfl<|.seq<|.cb h1 rfl (fun h1=>?_) (fun h1=>?_)
  ·refine .sk<|.pr [0,2,7,14,15,16] rfl<|.seq<|.block<|.seq<|.region<|.bd h1 fun x1 hx1 h1=>.ix3 hx1 3 rfl fun b1 ob1 ex1=>?_;obtain ⟨⟨A8,c8⟩,⟨⟨A9,c9⟩,_⟩⟩:=ex1;refine .nm 9 rfl<|.ld ob1 0 0 rfl<|.alloc rfl rfl fun g2=>.sb 0 0 rfl<|.bf [0,2,7,9,14,15,16] [0] 1 rfl rfl<|.a 1 rfl<|.bd h1 fun r1 hr1 h1=>.cr 10 [4] [8] 0 (yA hr1) oZ rfl fun A10 c10=>.bf [0,2,7,9,14,15,16,22] [0,0,0,0,0] 1 rfl rfl<|.cb h1 rfl (fun h1=>?_) (fun h1=>?_)
   ·refine .bd h1 fun r2 hr2 h1=>.bd h1 fun r3 hr3 h1=>.bd h1 fun l1 hl1 h1=>.regionX (iN [0,8,12,16,40] (.alt (iN [7] (iN [23,24,28,32,36] (iN [47,48] (iN [55,56] (iN [63] (iN [67,68] (iN [75] .nil))))))) (iN [23,24,28,32,36] (.alt (iN [7] (iN [47,48] (iN [55,56] (iN [63] (iN [67,68] (iN [75] .nil)))))) (iN [47,48] (.alt (iN [7] (iN [55,56] (iN [63] (iN [67,68] (iN [75] .nil))))) (iN [55,56] (.alt (iN [7] (iN [63] (iN [67,68] (iN [75] .nil)))) (iN [63] (iN [7] (iN [67,68] (iN [75] .nil)))))))))))) _ mixed (by kernel_rfl) (zl [0,1,1,1] 3 rfl)<|.shareK (Y:=?Ynd1_0) 2 (fun (e:Nat × Nat × Option Addr × Nat × Option Addr × Nat)=>[0,2,7,14,15,16, .s 24 (.slice A4 s1.2.1.length c4), .s 26 (.string x1.Name), .s 28 (.int .i64 r2.2), .s 29 (.int .i64 (IntKind.wrap .i64 (r2.2.tdiv 2))), .s 30 (.int .i64 ((IntKind.wrap .i64 (r2.2.tdiv 2)).tmod 3)), .s 31 (.int .i64 (IntKind.wrap .i64 (1+((IntKind.wrap .i64 (r2.2.tdiv 2)).tmod 3)))), .s 32 (.agg #[.int .i64 (IntKind.wrap .i64 (1+((IntKind.wrap .i64 (r2.2.tdiv 2)).tmod 3))), .int .i64 0, .int .i64 0]), .s 34 (.int .i64 r3.2), .s 36 (.slice (some ⟨e.1,0,none⟩) 1 1), .s 38 (.slice (some ⟨e.2.1,0,none⟩) 1 1)]) (fun e=>[.res (Box e.2.1 58 [.string x1.Name, .int .i64 (IntKind.wrap .i64 (1+((IntKind.wrap .i64 (r2.2.tdiv 2)).tmod 3))), .int .i64 0, .int .i64 0, .slice (some ⟨e.1,0,none⟩) 1 1]), .res (Box e.1 5 [.int .u8 (IntKind.wrap .u8 r3.2)]), .ro (SlL eu8 e.2.2.1 e.2.2.2.1 r3.1.L), .res (Box gb1 127 [.slice e.2.2.1 r3.1.L.length e.2.2.2.1, .int .i64 r3.1.At]), .ro (SlL eu8 e.2.2.2.2.1 e.2.2.2.2.2 r2.1.L),0]) rfl rfl (fun hnd1_0=>?mnd1_0) ?tnd1_0
    case mnd1_0=>
     refine .shareK (Y:=?Ynd1_1) 2 (fun (e:Nat × Option Addr × Nat × Option Addr × Nat)=>[0,2,7,14,15,16, .s 24 (.slice A4 s1.2.1.length c4), .s 26 (.string x1.Name), .s 28 (.int .i64 r2.2), .s 29 (.int .i64 (IntKind.wrap .i64 (r2.2.tdiv 2))), .s 30 (.int .i64 ((IntKind.wrap .i64 (r2.2.tdiv 2)).tmod 3)), .s 31 (.int .i64 (IntKind.wrap .i64 (1+((IntKind.wrap .i64 (r2.2.tdiv 2)).tmod 3)))), .s 32 (.agg #[.int .i64 (IntKind.wrap .i64 (1+((IntKind.wrap .i64 (r2.2.tdiv 2)).tmod 3))), .int .i64 0, .int .i64 0]), .s 34 (.int .i64 r3.2), .s 36 (.slice (some ⟨e.1,0,none⟩) 1 1), .s 37 (.agg #[.string x1.Name, .int .i64 (IntKind.wrap .i64 (1+((IntKind.wrap .i64 (r2.2.tdiv 2)).tmod 3))), .int .i64 0, .int .i64 0, .slice (some ⟨e.1,0,none⟩) 1 1])]) (fun e=>[.res (Box e.1 5 [.int .u8 (IntKind.wrap .u8 r3.2)]), .ro (SlL eu8 e.2.1 e.2.2.1 r3.1.L), .res (Box gb1 127 [.slice e.2.1 r3.1.L.length e.2.2.1, .int .i64 r3.1.At]), .ro (SlL eu8 e.2.2.2.1 e.2.2.2.2 r2.1.L),0]) rfl rfl (fun hnd1_1=>?mnd1_1) ?tnd1_1
     case mnd1_1=>
      refine .shareK (Y:=?Ynd1_2) 2 (fun (e:Option Addr × Nat × Option Addr × Nat)=>[0,2,7,14,15,16, .s 24 (.slice A4 s1.2.1.length c4), .s 26 (.string x1.Name), .s 28 (.int .i64 r2.2), .s 29 (.int .i64 (IntKind.wrap .i64 (r2.2.tdiv 2))), .s 30 (.int .i64 ((IntKind.wrap .i64 (r2.2.tdiv 2)).tmod 3)), .s 31 (.int .i64 (IntKind.wrap .i64 (1+((IntKind.wrap .i64 (r2.2.tdiv 2)).tmod 3)))), .s 32 (.agg #[.int .i64 (IntKind.wrap .i64 (1+((IntKind.wrap .i64 (r2.2.tdiv 2)).tmod 3))), .int .i64 0, .int .i64 0]), .s 34 (.int .i64 r3.2), .s 35 (.int .u8 (IntKind.wrap .u8 r3.2))]) (fun e=>[.ro (SlL eu8 e.1 e.2.1 r3.1.L), .res (Box gb1 127 [.slice e.1 r3.1.L.length e.2.1, .int .i64 r3.1.At]), .ro (SlL eu8 e.2.2.1 e.2.2.2 r2.1.L),0]) rfl rfl (fun hnd1_2=>?mnd1_2) ?tnd1_2
      case mnd1_2=>
       refine .shareK (Y:=?Ynd1_3) 2 (fun (e:Option Addr × Nat)=>[0,2,7,14,15,16, .s 24 (.slice A4 s1.2.1.length c4), .s 26 (.string x1.Name), .s 28 (.int .i64 r2.2), .s 29 (.int .i64 (IntKind.wrap .i64 (r2.2.tdiv 2))), .s 30 (.int .i64 ((IntKind.wrap .i64 (r2.2.tdiv 2)).tmod 3)), .s 31 (.int .i64 (IntKind.wrap .i64 (1+((IntKind.wrap .i64 (r2.2.tdiv 2)).tmod 3)))), .s 32 (.agg #[.int .i64 (IntKind.wrap .i64 (1+((IntKind.wrap .i64 (r2.2.tdiv 2)).tmod 3))), .int .i64 0, .int .i64 0]), .s 33 (.pointer (some ⟨gb1,0,none⟩))]) (fun e=>[.ro (SlL eu8 e.1 e.2 r2.1.L), .res (Box gb1 127 [.slice e.1 r2.1.L.length e.2, .int .i64 r2.1.At]),0]) rfl rfl (fun hnd1_3=>?mnd1_3) ?tnd1_3
       case mnd1_3=>
        refine .yn 2 rfl<|.yl 0 1 rfl<|.yn 2 rfl<|.xalt ?_ ?_
        ·refine .xef<|.lb 0 6 rfl<|.xk (zl [0,1,1,1] 3 rfl)<|.xef<|.cr 10 [1] [1] 0 (yA hr2) oZ rfl fun A11 c11=>.xk (zl [2,2,2,2] 4 rfl)<|.yn 4 rfl ?_;refine hnd1_3 _ _ (A11,c11) ?_ ?_
         ·exact ⟨rfl,rfl,rfl,rfl,rfl,rfl,rfl,rfl,rfl,rfl,rfl,rfl,rfl,rfl,trivial⟩
         exact fun _ w=>w
        refine .xef<|.cr 10 [1] [1] 0 (yA hr2) oZ rfl fun A11 c11=>.xk (zl [2,2,2,2] 4 rfl)<|.yn 4 rfl<|.xalt ?_ ?_
        ·refine .xef<|.lb 0 7 rfl<|.xk (zl [2,2,2,2] 4 rfl) ?_;refine hnd1_3 _ _ (A11,c11) ?_ ?_
         ·exact ⟨rfl,rfl,rfl,rfl,rfl,rfl,rfl,rfl,rfl,rfl,rfl,rfl,rfl,rfl,trivial⟩
         exact fun _ w=>w
        refine .xef<|.cr 11 [1] [1] 0 (yA hr3) oZ rfl fun A12 c12=>.xk (zl [3,3,3,3] 5 rfl)<|.yn 1 rfl<|.xalt ?_ ?_
        ·refine .xef<|.lb 0 8 rfl<|.xk (zl [3,3,3,3] 5 rfl) ?_;refine hnd1_2 _ _ (A12,c12,A11,c11) ?_ ?_
         ·exact ⟨rfl,rfl,rfl,rfl,rfl,rfl,rfl,rfl,rfl,rfl,rfl,rfl,rfl,rfl,rfl,trivial⟩
         exact fun _ w=>w
        refine .xef<|.bS rfl fun g3=>.xk (zl [4,4,4,4] 6 rfl)<|.yn 1 rfl<|.xalt ?_ ?_
        ·refine .xef<|.lb 0 9 rfl<|.xk (zl [4,4,4,4] 6 rfl) ?_;refine hnd1_1 _ _ (g3,A12,c12,A11,c11) ?_ ?_
         ·exact ⟨rfl,rfl,rfl,rfl,rfl,rfl,rfl,rfl,rfl,rfl,rfl,rfl,rfl,rfl,rfl,rfl,trivial⟩
         exact fun _ w=>w
        refine .xef<|.bS rfl fun g4=>.xk (zl [5,5,5,5] 7 rfl)<|.xef<|.lb 0 10 rfl<|.xk (zl [5,5,5,5] 7 rfl) ?_;refine hnd1_0 _ _ (g3,g4,A12,c12,A11,c11) ?_ ?_
        ·exact ⟨rfl,rfl,rfl,rfl,rfl,rfl,rfl,rfl,rfl,rfl,rfl,rfl,rfl,rfl,rfl,rfl,trivial⟩
        exact fun _ w=>w
       case tnd1_3=>
        rintro ⟨A11,c11⟩;refine .nm 10 rfl<|.xef<|.cr 11 [1] [1] 0 (yA hr3) oZ rfl fun A12 c12=>.xk (zl [3,3,3,3] 5 rfl)<|.yn 1 rfl ?_;refine hnd1_2 _ _ (A12,c12,A11,c11) ?_ ?_
        ·exact ⟨rfl,rfl,rfl,rfl,rfl,rfl,rfl,rfl,rfl,rfl,rfl,rfl,rfl,rfl,rfl,trivial⟩
        exact fun _ w=>w
      case tnd1_2=>
       rintro ⟨A12,c12,A11,c11⟩;refine .nm 11 rfl<|.xef<|.bS rfl fun g3=>.xk (zl [4,4,4,4] 6 rfl)<|.yn 1 rfl ?_;refine hnd1_1 _ _ (g3,A12,c12,A11,c11) ?_ ?_
       ·exact ⟨rfl,rfl,rfl,rfl,rfl,rfl,rfl,rfl,rfl,rfl,rfl,rfl,rfl,rfl,rfl,rfl,trivial⟩
       exact fun _ w=>w
     case tnd1_1=>
      rintro ⟨g3,A12,c12,A11,c11⟩;refine .nm 12 rfl<|.xef<|.bS rfl fun g4=>.xk (zl [5,5,5,5] 7 rfl) ?_;refine hnd1_0 _ _ (g3,g4,A12,c12,A11,c11) ?_ ?_
      ·exact ⟨rfl,rfl,rfl,rfl,rfl,rfl,rfl,rfl,rfl,rfl,rfl,rfl,rfl,rfl,rfl,rfl,trivial⟩
      exact fun _ w=>w
    case tnd1_0=>
     rintro ⟨g3,g4,A12,c12,A11,c11⟩;refine .nm 13 rfl<|.xef<|.asrt (fun _ w=>(w.sl [1] 0 rfl).litL (E:=eu8) (e:=5) [IntKind.wrap .u8 r3.2] rfl rfl)<|.asrt (fun _ w=>w.meltL)<|.appC (E:=(yL xC)) hl1 rfl rfl rfl (.s (.s (.s (.s (.s (.s (.s (.s (.s .z))))))))) rfl rfl rfl rfl rfl rfl rfl rfl (zDR (ls:=xC) [((⟨x1.Name,(⟨IntKind.wrap .i64 (1+((IntKind.wrap .i64 (r2.2.tdiv 2)).tmod 3)),0,0⟩:zK), [IntKind.wrap .u8 r3.2]⟩:zH),(((some ⟨g3,0,none⟩),([IntKind.wrap .u8 r3.2]:List Int).length),()))] (.tail _ (.head _)) rfl rfl rfl ⟨(.head _),trivial⟩) rfl rfl fun A13 c13=>.xk (zl [6,6,6,6] 7 rfl)<|.yn 1 rfl<|.xef<|.sb 0 10 rfl<|.xk (zl [] 7 rfl)<|.xdone<|.blkN<|.thenN<|.pf [0,2,7,14,15,16] [0,0,2,2] 7 rfl rfl<|.region ?_;cases h1;exact .be rfl<|.ag (A13,c13,A12,c12) hm1 rfl (zl [2,1,0,1,1] 0 rfl)
   refine .skip<|.blkN<|.thenN<|.pf [0,2,7,14,15,16] [0,0] 3 rfl rfl<|.region ?_;cases h1;exact .be rfl<|.ag (A4,c4,A10,c10) hm1 rfl (zl [0,1,1,1,1] 0 rfl)
  refine .xq rfl ?_;cases h1;cases hd1 _ rfl
  exact .thenN<|.hE (A4,c4,A5,c5) rfl (zl [0,0,0] 1 rfl)
 rintro ⟨A6,c6,A7,c7⟩;refine .seq<|.ab [0,7,42,43,44] rfl<|.asrt (fun _ w=>w.nilL zR 123)<|.bd h fun o2 hl2 h=>.cutK 6 (fun (e4:Option Addr × Nat × Option Addr × Nat)=>[0,7]) (fun e4=>[.ro (SlL eu8 e4.2.2.1 e4.2.2.2 o2.2.1), .res (zM zR 123 e4.1 e4.2.1 o2.1),2, .res (Box g1 46 [.slice A6 o1.1.length c6, .slice e4.1 o2.1.length e4.2.1]), .res (Box gb1 127 [.slice e4.2.2.1 o2.2.1.length e4.2.2.2, .int .i64 o2.2.2])]) rfl rfl ?_ ?_
 ·refine .block<|.loopQ hl2 6 (fun (s2:Int × List zT × List Int × Int) (e3:Option Addr × Nat × Option Addr × Nat)=>[0,7,42,43, .s 44 (.int .i64 s2.1)]) (fun s2 e3=>[.ro (SlL eu8 e3.2.2.1 e3.2.2.2 s2.2.2.1), .res (zM zR 123 e3.1 e3.2.1 s2.2.1),2, .res (Box g1 46 [.slice A6 o1.1.length c6, .slice e3.1 s2.2.1.length e3.2.1]),4, .res (Box gb1 127 [.slice e3.2.2.1 s2.2.2.1.length e3.2.2.2, .int .i64 s2.2.2.2])]) rfl rfl (none,0,A7,c7) (zb rfl) (zl [1] 0 rfl) ?_;rintro s2 ⟨A14,c14,A15,c15⟩ st2 hm2 hd2 h2;refine .ae rfl<|.seq<|.cb h2 rfl (fun h2=>?_) (fun h2=>?_)
  ·refine .sk<|.pr [0,7,42,43,44] rfl<|.seq<|.block<|.seq<|.region<|.bd h2 fun x2 hx2 h2=>.ix1 hx2 4 rfl fun b2 ob2=>.ld ob2 0 0 rfl<|.alloc rfl rfl fun g5=>.sb 0 0 rfl<|.bf [0,7,11,42,43,44] [0] 1 rfl rfl<|.a 1 rfl<|.bd h2 fun r4 hr4 h2=>.cr 8 [2] [6] 0 (yA hr4) oZ rfl fun A18 c18=>.bf [0,7,11,42,43,44,50] [0,0,0] 1 rfl rfl<|.cb h2 rfl (fun h2=>?_) (fun h2=>?_)
   ·refine .region<|.p rfl rfl<|.lb 1 5 rfl<|.lb 0 2 rfl<|.bS rfl fun g6=>.bd h2 fun l2 hl2 h2=>.app (E:=zR) hl2 rfl rfl rfl (.s (.s (.s (.s .z)))) rfl rfl rfl rfl rfl rfl rfl rfl (eO (.head _) rfl rfl) rfl rfl fun A19 c19=>.p rfl rfl<|.sb 1 6 rfl<|.done<|.blkN<|.thenN<|.pf [0,7,42,43,44] [0,0,1,1] 2 rfl rfl<|.region ?_;cases h2;exact .be rfl<|.ag (A19,c19,A18,c18) hm2 rfl (zl [2,1,2,0,1] 0 rfl)
   refine .skip<|.blkN<|.thenN<|.pf [0,7,42,43,44] [0,0] 1 rfl rfl<|.region ?_;cases h2;exact .be rfl<|.ag (A14,c14,A18,c18) hm2 rfl (zl [0,1,1,1,1] 0 rfl)
  refine .xq rfl ?_;cases h2;cases hd2 _ rfl
  exact .thenN<|.hE (A14,c14,A15,c15) rfl (zl [0,0,0,0] 1 rfl)
 rintro ⟨A16,c16,A17,c17⟩;refine .seq<|.bd h fun o3 hj1 h=>.cutK 5 (fun (e5:Option Addr × Nat × Option Addr × Nat × Option Addr × Nat)=>[0,7]) (fun e5=>[.ro (SlL eu8 e5.2.2.2.2.1 e5.2.2.2.2.2 o3.2.2.1), .res (zM zR 123 e5.2.2.1 e5.2.2.2.1 o3.2.1), .res (xK (yL xC) 58 e5.1 e5.2.1 o3.1), .res (Box g1 46 [.slice e5.1 o3.1.length e5.2.1, .slice e5.2.2.1 o3.2.1.length e5.2.2.2.1]), .res (Box gb1 127 [.slice e5.2.2.2.2.1 o3.2.2.1.length e5.2.2.2.2.2, .int .i64 o3.2.2.2])]) rfl rfl ?_ ?_
 ·refine .a 1 rfl<|.bd hj1 fun r5 hr5 hj1=>.cr 6 [1] [4] 0 (yA hr5) oZ rfl fun A23 c23=>.bf [0,7,59] [0,0] 1 rfl rfl<|.block<|.ab [0,7,59,60] rfl<|.cb hj1 rfl (fun hj1=>?_) (fun hj1=>?_)
  ·refine .region<|.p rfl rfl<|.lb 0 4 rfl<|.p rfl rfl<|.bS rfl fun g7=>.p rfl rfl<|.bS rfl fun g8=>.bd hj1 fun l3 hl3 hj1=>.asrt (fun _ w=>(w.sl [1] 0 rfl).litL (E:=eu8) (e:=5) [1] rfl rfl)<|.asrt (fun _ w=>w.meltL)<|.appC (E:=(yL xC)) hl3 rfl rfl rfl (.s (.s (.s (.s (.s .z))))) rfl rfl rfl rfl rfl rfl rfl rfl (zDR (ls:=xC) [((⟨⟨#[122,122,122]⟩,(⟨1,0,0⟩:zK), [1]⟩:zH),(((some ⟨g7,0,none⟩),([1]:List Int).length),()))] (.tail _ (.head _)) rfl rfl rfl ⟨(.head _),trivial⟩) rfl rfl fun A24 c24=>.p rfl rfl<|.sb 0 6 rfl<|.done<|.blkN ?_;cases hj1;exact .thenN<|.hE (A24,c24,A16,c16,A23,c23) rfl (zl [4,5,1,0] 2 rfl)
  refine .ab [0,7,70] rfl<|.cb hj1 rfl (fun hj1=>?_) (fun hj1=>?_)
  ·refine .region<|.p rfl rfl<|.lb 1 4 rfl<|.p rfl rfl<|.bS rfl fun g9=>.bd hj1 fun l4 hl4 hj1=>.app (E:=zR) hl4 rfl rfl rfl (.s (.s (.s .z))) rfl rfl rfl rfl rfl rfl rfl rfl (eO (.head _) rfl rfl) rfl rfl fun A25 c25=>.p rfl rfl<|.sb 1 5 rfl<|.done<|.blkN ?_;cases hj1;exact .thenN<|.hE (A6,c6,A25,c25,A23,c23) rfl (zl [3,1,3,0] 1 rfl)
  refine .skip<|.blkN ?_;cases hj1;exact .thenN<|.hE (A6,c6,A16,c16,A23,c23) rfl (zl [0,1,1,1] 0 rfl)
 rintro ⟨A20,c20,A21,c21,A22,c22⟩;refine .seq<|.region<|.lb 0 3 rfl<|.asrt (fun _ w=>(w.sl [2] 0 rfl).meltC)<|.asrt (fun _ w=>(w.sl [2] 0 rfl).meltL)<|.bd h fun r6 hr6 h=>.cr 6 [1,0] [] 0 (zFK hr6) zXD rfl fun A26 c26=>.bf [0,12] [0,2] 3 rfl rfl<|.seq<|.seq<|.bd h fun o4 hj2 h=>.cutK 3 (fun (e6:Option Addr × Nat)=>[0,12, .s 90 (.bool o4.1)]) (fun e6=>[.ro (SlL eu8 e6.1 e6.2 o4.2.1),0, .res (Box gb1 127 [.slice e6.1 o4.2.1.length e6.2, .int .i64 o4.2.2])]) rfl rfl ?_ ?_
 ·refine .region<|.p rfl rfl<|.bd hj2 fun r7 hr7 hj2=>.cr 4 [2] [2] 0 (yA hr7) oZ rfl fun A28 c28=>.n 2 rfl<|.gs 86 hj2 rfl (fun hj2=>?_) (fun hj2=>?_)
  ·cases hj2;exact .be rfl<|.hE (A28,c28) rfl (zl [0,1,0] 1 rfl)
  cases hj2;exact .be rfl<|.hE (A28,c28) rfl (zl [0,1,0] 1 rfl)
 rintro ⟨A27,c27⟩;refine .cb h rfl (fun h=>?_) (fun h=>?_)
 ·refine .region<|.n 4 rfl<|.bd h fun r8 hr8 h=>.cr 4 [1] [2] 0 (yA hr8) oZ rfl fun A29 c29=>.bd h fun x3 hx3 h=>.ix2 hx3 3 rfl fun g10 hA=>?_;subst hA;refine .ldO 0 hx3 rfl rfl (zm 3 rfl) rfl rfl<|.p rfl rfl<|.ix2 hx3 3 rfl fun g11 hA=>?_;cases hA;refine .bd h fun l5 hl5 h=>.stO 0 hx3 hl5 rfl rfl (.s (.s (.s .z))) rfl rfl rfl rfl rfl ?_;refine .ss 12 (wZ hl5) ?_;refine .ss 91 (wZ hl5) ?_;refine .ss 93 (wZ hl5)<|.bf [12] [0,0,0] 1 rfl rfl<|.ab [6] rfl ?_;cases h;exact .rv rfl rfl ⟨A29,c29,(some ⟨g10,0,none⟩),c26,rfl,rfl⟩ (zk 3 1 [2] [2] 0 rfl)
 refine .sk<|.pr [12] rfl<|.ab [6] rfl ?_;cases h;exact .rv rfl rfl ⟨A27,c27,A26,c26,rfl,rfl⟩ (zk 3 1 [2] [2,1] 0 rfl)
theorem zQn:Ent Tryz.prog 24:=en Tryz.func24 (by kernel_rfl)
noncomputable def wK (a_p0:zD):Option (List zB):=
 bnd ((mkC 184 0 (a_p0.devices.length:Int):Option (List zB))) fun l1=>bnd (yG (τ:=List zB) (fun (s1:List zB × Int)=>bif decide (s1.2<(a_p0.devices.length:Int)) then (bnd (elt a_p0.devices s1.2) fun x1=>bnd (pM x1) fun r1=>bnd (app 184 s1.1 [r1]) fun l2=>some (.next (l2,IntKind.wrap .i64 (s1.2+1)))) else (some (.done s1.1))) (l1,0)) fun o1=>some o1
theorem pA {a_p0 A1 c1 A2 c2 A3 c3 A4 c4 A5 c5 gb1 gb2 r} (h:wK a_p0=some r):
    Fun Tryz.prog 24 [.pointer (some ⟨gb1,0,none⟩)] [.ro (SlL zR A2 c2 a_p0.needs), .ro (SlL yU A3 c3 a_p0.load.Have), .ro (SlL eu8 A4 c4 a_p0.load.Data), .ro (SlL yH A5 c5 a_p0.order), .res (Box gb1 144 (zI a_p0 gb2 A1 c1 A2 c2 A3 c3 A4 c4 A5 c5)), .res (xK (yL zE) 64 A1 c1 a_p0.devices)] (fun v F=>∃ A6 c6,v= .slice A6 r.length c6∧F= [.res (Box gb1 144 (zI a_p0 gb2 A1 c1 A2 c2 A3 c3 A4 c4 A5 c5)), .res (xK (yL zE) 64 A1 c1 a_p0.devices), .res (xK (yL zE) 64 A6 c6 r)]):=by
 refine Fun.intro Tryz.func24 rfl rfl rfl fun w R=>?_;refine .ab [0] rfl<|.a 3 rfl<|.lb 1 4 rfl<|.p rfl rfl<|.bd h fun l1 hl1 h=>.mkC (E:=(yL zE)) hl1 rfl rfl rfl rfl rfl rfl rfl rfl rfl rfl rfl fun g1=>.b [0,3] rfl<|.seq<|.a 3 rfl<|.lb 1 5 rfl<|.b [3,15,16,17] rfl<|.bd h fun o1 hl1 h=>.cutK 1 (fun (e2:Option Addr × Nat)=>[.s 3 (.slice e2.1 o1.length e2.2)]) (fun e2=>[.res (xK (yL zE) 64 e2.1 e2.2 o1)]) rfl rfl ?_ ?_
 ·refine .block<|.loopQ hl1 1 (fun (s1:List zB × Int) (e1:Option Addr × Nat)=>[.s 3 (.slice e1.1 s1.1.length e1.2),15,16, .s 17 (.int .i64 s1.2)]) (fun s1 e1=>[.res (xK (yL zE) 64 e1.1 e1.2 s1.1)]) rfl rfl ((some ⟨g1,0,none⟩),(Int.toNat (a_p0.devices.length:Int))) (zb rfl) (fun _ w=>w) ?_;rintro s1 ⟨A6,c6⟩ st1 hm1 hd1 h1;refine .ae rfl<|.seq<|.cb h1 rfl (fun h1=>?_) (fun h1=>?_)
  ·refine .sk<|.pr [3,15,16,17] rfl<|.seq<|.block<|.seq<|.region<|.bd h1 fun x1 hx1 h1=>.ixC hx1 rfl rfl rfl (zm 6 rfl) rfl rfl rfl rfl rfl fun g2 hA=>?_;subst hA;refine .ldC (ls:=zE) 0 (fun ex=>.agg (zN x1 ex.1.1 ex.1.2 ex.2.1.1 ex.2.1.2).toArray) hx1 rfl rfl (zm 6 rfl) rfl (fun _=>rfl) fun ex1=>?_;obtain ⟨⟨A8,c8⟩,⟨⟨A9,c9⟩,_⟩⟩:=ex1;refine .nm 9 rfl<|.alloc rfl rfl fun g3=>.sb 0 0 rfl<|.b [3,5,15,16,17] rfl<|.region<|.p rfl rfl<|.lb 0 0 rfl<|.bd h1 fun r1 hr1 h1=>.ct 12 [1,2] [] 0 (bL hr1) zUS rfl fun A10 c10 A11 c11=>.bS rfl fun g4=>.bd h1 fun l2 hl2 h1=>.appC (E:=(yL zE)) hl2 rfl rfl rfl (.s (.s (.s (.s (.s (.s .z)))))) rfl rfl rfl rfl rfl rfl rfl rfl (zDR (ls:=zE) [(r1,((A10,c10),((A11,c11),())))] (.head _) rfl rfl rfl ⟨(.tail _ (.head _)),(zm 2 rfl),trivial⟩) rfl rfl fun A12 c12=>.p rfl rfl<|.done<|.blkN<|.thenN<|.pf [3,15,16,17] [0] 6 rfl rfl<|.region ?_;cases h1;exact .be rfl<|.ag (A12,c12) hm1 rfl zw
  refine .xq rfl ?_;cases h1;cases hd1 _ rfl
  exact .thenN<|.hE (A6,c6) rfl zw
 rintro ⟨A7,c7⟩;refine .ab [2] rfl ?_;cases h;exact .rv rfl rfl ⟨A7,c7,rfl,rfl⟩ (zl [5,5,0] 4 rfl)
end Go.Proofs.YtplchdlgdjcojaaGreatDoor
end
section
namespace Go.Proofs.YtplchdlgdjcojaaGreatDoor
open Go
set_option linter.unusedVariables false
set_option maxHeartbeats 4000000
set_option maxRecDepth 4000
theorem zXT:Ent Tryz.prog 32:=en Tryz.func32 (by kernel_rfl)
noncomputable def qZ (d_p0:zA) (steps:Int) (torn:Int):Option zA:=
 bif !d_p0.down then (some (⟨d_p0.size,d_p0.bytes,d_p0.wear,d_p0.steps,max steps 0,torn,d_p0.down⟩:zA)) else (some d_p0)
theorem zBH {d_p0 steps torn A1 c1 A2 c2 gb1 r} (h:qZ d_p0 steps torn=some r):
    Fun Tryz.prog 32 [.pointer (some ⟨gb1,0,none⟩), .int .i64 steps, .int .u8 torn] [.res (Box gb1 131 (zG d_p0 A1 c1 A2 c2)), .res (zM eu8 5 A1 c1 d_p0.bytes), .res (zM yH 3 A2 c2 d_p0.wear)] (fun v F=>∃ A3 c3 A4 c4,v= .tuple #[]∧F= [.res (Box gb1 131 (zG r A3 c3 A4 c4)), .res (zM eu8 5 A3 c3 r.bytes), .res (zM yH 3 A4 c4 r.wear)]):=by
 refine Fun.intro Tryz.func32 rfl rfl rfl fun w R=>?_;refine .a 3 rfl<|.lb 6 0 rfl<|.b [0,1,2,10] rfl<|.cb h rfl (fun h=>?_) (fun h=>?_)
 ·refine .region<|.n 7 rfl<|.sb 4 0 rfl<|.n 2 rfl<|.sb 5 0 rfl<|.done ?_;cases h;exact .finN' Tryz.results32 .nil rfl _ ⟨A1,c1,A2,c2,rfl,rfl⟩ (fun _ w=>w)
 refine .skip ?_;cases h;exact .finN' Tryz.results32 .nil rfl _ ⟨A1,c1,A2,c2,rfl,rfl⟩ (fun _ w=>w)
theorem zVh:Ent Tryz.prog 33:=en Tryz.func33 (by kernel_rfl)
noncomputable def mA (a_p0:zD) (needs:(List zT)):Option Bool:=
 bnd (wK a_p0) fun r1=>bnd (yG (τ:=Bool ⊕ List zL) (fun (s1:List zL × Int)=>bif decide (s1.2<(r1.length:Int)) then (bnd (elt r1 s1.2) fun x1=>bnd ((bnd (uY x1) fun r2=>bif !r2 then (some true) else (bif decide (x1.Running<0) then (some true) else (bif decide (x1.Running>1) then (some true) else (bnd (elt [x1.Slots.e0,x1.Slots.e1] x1.Running) fun x2=>bnd (lY x2) fun r3=>bif !r3 then (some true) else (some (!(x2.Image.Name.toList==x1.Name.toList)))))):Option Bool)) fun o3=>bif o3 then (some (.done (.inl false))) else (bnd (oU x1) fun r4=>bnd (app 40 s1.1 [(⟨x1.Name,r4⟩:zL)]) fun l1=>some (.next (l1,IntKind.wrap .i64 (s1.2+1))))) else (some (.done (.inr s1.1)))) ([],0)) fun o1=>wT o1 fun o2=>bnd (yG (τ:=Bool ⊕ Unit) (fun (s2:Int)=>bif decide (s2<(needs.length:Int)) then (bnd (elt needs s2) fun x3=>bnd (qB o2 x3) fun r5=>bif !r5 then (some (.done (.inl false))) else (some (.next (IntKind.wrap .i64 (s2+1))))) else (some (.done (.inr ())))) 0) fun o4=>wT o4 fun o5=>some (decide ((r1.length:Int)>0))
theorem zAX {a_p0 needs A1 c1 A2 c2 A3 c3 A4 c4 A5 c5 A6 c6 gb1 gb2 r} (h:mA a_p0 needs=some r):
    Fun Tryz.prog 33 [.pointer (some ⟨gb1,0,none⟩), .slice A6 needs.length c6] [.ro (SlL zR A2 c2 a_p0.needs), .ro (SlL yU A3 c3 a_p0.load.Have), .ro (SlL eu8 A4 c4 a_p0.load.Data), .ro (SlL yH A5 c5 a_p0.order), .ro (SlL zR A6 c6 needs), .res (Box gb1 144 (zI a_p0 gb2 A1 c1 A2 c2 A3 c3 A4 c4 A5 c5)), .res (xK (yL zE) 64 A1 c1 a_p0.devices)] (fun v F=>v= .bool r∧F= [.res (Box gb1 144 (zI a_p0 gb2 A1 c1 A2 c2 A3 c3 A4 c4 A5 c5)), .res (xK (yL zE) 64 A1 c1 a_p0.devices)]):=by
 refine Fun.intro Tryz.func33 rfl rfl rfl fun w R=>?_;refine .ab [0,1] rfl<|.a 1 rfl<|.bd h fun r1 hr1 h=>.cr 8 [2,3,4,5] [5,5] 0 (pA (gb1:=gb1) hr1) zQn rfl fun A7 c7=>.b [1,5] rfl<|.ae rfl<|.seq<|.ae rfl<|.asrt (fun _ w=>w.nilL zJ 85)<|.bd h fun o1 hl1 h=>.cutJ 1 (fun (o2:List zL) (e2:Option Addr × Nat)=>[1,5, .s 6 (.slice e2.1 o2.length e2.2)]) (fun o2 e2=>[.res (zM zJ 85 e2.1 e2.2 o2)]) rfl rfl (fun o2=>o1= .inr o2) ?_ ?_
 ·refine .block<|.loopQ hl1 1 (fun (s1:List zL × Int) (e1:Option Addr × Nat)=>[1,5, .s 6 (.slice e1.1 s1.1.length e1.2),13,14, .s 15 (.int .i64 s1.2)]) (fun s1 e1=>[.res (zM zJ 85 e1.1 e1.2 s1.1)]) rfl rfl (none,0) (zb rfl) (fun _ w=>w) ?_;rintro s1 ⟨A8,c8⟩ st1 hm1 hd1 h1;refine .ae rfl<|.seq<|.cb h1 rfl (fun h1=>?_) (fun h1=>?_)
  ·refine .sk<|.pr [1,5,6,13,14,15] rfl<|.seq<|.block<|.seq<|.region<|.bd h1 fun x1 hx1 h1=>.ixC hx1 rfl rfl rfl (zm 3 rfl) rfl rfl rfl rfl rfl fun g1 hA=>?_;subst hA;refine .ldC (ls:=zE) 0 (fun ex=>.agg (zN x1 ex.1.1 ex.1.2 ex.2.1.1 ex.2.1.2).toArray) hx1 rfl rfl (zm 3 rfl) rfl (fun _=>rfl) fun ex1=>?_;obtain ⟨⟨A10,c10⟩,⟨⟨A11,c11⟩,_⟩⟩:=ex1;refine .nm 11 rfl<|.alloc rfl rfl fun g2=>.sb 0 0 rfl<|.b [1,5,6,8,13,14,15] rfl<|.seq<|.seq<|.bd h1 fun o3 hj1 h1=>.cu 0 [1,5,6,8,13,14,15, .s 52 (.bool o3)] [] rfl rfl ?_ ?_
   ·refine .regionF mixed (by kernel_rfl)<|.lb 0 0 rfl<|.bd hj1 fun r2 hr2 hj1=>.cv [1,2] (pB hr2) zFH rfl<|.n 2 rfl<|.gs 22 hj1 rfl (fun hj1=>?_) (fun hj1=>?_)
    ·cases hj1;exact .beq rfl<|.hU rfl zw
    refine .n 1 rfl<|.gOn rfl rfl<|.lb 14 0 rfl<|.n 3 rfl<|.gs 27 hj1 rfl (fun hj1=>?_) (fun hj1=>?_)
    ·cases hj1;exact .beq rfl<|.hU rfl zw
    refine .n 1 rfl<|.gOn rfl rfl<|.lb 14 0 rfl<|.n 3 rfl<|.gs 32 hj1 rfl (fun hj1=>?_) (fun hj1=>?_)
    ·cases hj1;exact .beq rfl<|.hU rfl zw
    refine .n 1 rfl<|.gOn rfl rfl<|.lb 14 0 rfl<|.n 1 rfl<|.gOn rfl rfl<|.bd hj1 fun x2 hx2 hj1=>.ixP (sz:=6) hx2 rfl rfl rfl rfl rfl rfl rfl rfl<|.gOn rfl rfl<|.ldP (ls:=oQ) 0 [.string x1.Name] [.int .i64 x1.Active, .int .i64 x1.Running, .bool x1.Trial] [(x1.Slots.e0,((A10,c10),())),(x1.Slots.e1,((A11,c11),()))] (fun ex=>.agg (mZ x2 ex.1.1 ex.1.2).toArray) hx2 rfl rfl (.head _) rfl rfl rfl ⟨(.tail _ (.head _)),(zm 2 rfl),trivial⟩ rfl (fun _=>rfl) fun ex2=>?_;obtain ⟨⟨A12,c12⟩,_⟩:=ex2;refine .nm 13 rfl<|.gOn rfl rfl<|.bd hj1 fun r3 hr3 hj1=>.cv [0] (zBK hr3) zVc rfl<|.n 3 rfl<|.gs 41 hj1 rfl (fun hj1=>?_) (fun hj1=>?_)
    ·cases hj1;exact .beq rfl<|.hU rfl (zl [] 1 rfl)
    refine .n 1 rfl<|.gOn rfl rfl<|.lb 14 1 rfl<|.n 1 rfl<|.gOn rfl rfl<|.ixP (sz:=6) hx2 rfl rfl rfl rfl rfl rfl rfl rfl<|.n 2 rfl<|.gOn rfl rfl<|.ldP (ls:=oQ) 0 [.string x1.Name] [.int .i64 x1.Active, .int .i64 x1.Running, .bool x1.Trial] [(x1.Slots.e0,((A10,c10),())),(x1.Slots.e1,((A11,c11),()))] (fun ex=>.string x2.Image.Name) hx2 rfl rfl (.tail _ (.head _)) rfl rfl rfl ⟨(zm 2 rfl),(zm 3 rfl),trivial⟩ rfl (fun _=>rfl) fun ex3=>?_;obtain ⟨⟨A13,c13⟩,_⟩:=ex3;refine .nm 14 rfl<|.n 1 rfl<|.gOn rfl rfl<|.lb 0 2 rfl ?_;cases hj1;exact .beq rfl<|.hU rfl (zl [] 2 rfl)
   refine .cb h1 rfl (fun h1=>?_) (fun h1=>?_)
   ·refine .abf [4] [4,4,5,5,5,5] 6 rfl rfl ?_;cases h1;cases hd1 _ rfl
    have h:some _=some _:=h;cases h;exact .rv rfl rfl ⟨rfl,rfl⟩ (zl [0,0] 4 rfl)
   refine .sk<|.pr [1,5,6,8,13,14,15] rfl<|.regionX (iN [0,4,9,13,18,20,27,31,32] .nil) _ mixed (by kernel_rfl) (zl [0,0,0] 1 rfl)<|.yn 2 rfl<|.yx 0 0 rfl<|.yx 0 0 rfl<|.bd h1 fun r4 hr4 h1=>.xqc (fun _ h=>h) (aA hr4) zUT rfl rfl rfl rfl (za [1,2] rfl)<|.yn 1 rfl<|.xef<|.bS rfl fun g3=>.xk (zl [1,1,1] 2 rfl)<|.xef<|.bd h1 fun l1 hl1 h1=>.app (E:=zJ) hl1 rfl rfl rfl (.s (.s (.s (.s .z)))) rfl rfl rfl rfl rfl rfl rfl rfl (eO (.head _) rfl rfl) rfl rfl fun A14 c14=>.xk (zl [] 2 rfl)<|.yn 1 rfl<|.xdone<|.blkN<|.thenN<|.pf [1,5,6,13,14,15] [0] 4 rfl rfl<|.region ?_;cases h1;exact .be rfl<|.ag (A14,c14) hm1 rfl zw
  refine .xq rfl ?_;cases h1;cases hd1 _ rfl
  exact .thenN<|.hereI s1.1 (A8,c8) rfl (zb rfl) zw
 rintro o2 ⟨A9,c9⟩ ho;subst ho;have h:=unR h;refine .seq<|.ab [5,6,62,63,64] rfl<|.asrt (fun _ w=>(w.sl [3] 0 rfl).meltC)<|.asrt (fun _ w=>(w.sl [1] 0 rfl).meltL)<|.bd h fun o4 hl2 h=>.cutJ 9 (fun (o5:Unit) (e5:Unit)=>[5]) (fun o5 e5=>[1,2,3,4,5,6,7]) rfl rfl (fun o5=>o4= .inr o5) ?_ ?_
 ·refine .block<|.loopQ hl2 0 (fun (s2:Int) (e4:Unit)=>[5,6,62,63, .s 64 (.int .i64 s2)]) (fun s2 e4=>[]) rfl rfl () (zb rfl) (fun _ w=>w) ?_;rintro s2 e4 st2 hm2 hd2 h2;refine .ae rfl<|.seq<|.cb h2 rfl (fun h2=>?_) (fun h2=>?_)
  ·refine .sk<|.pr [5,6,62,63,64] rfl<|.seq<|.block<|.seq<|.region<|.bd h2 fun x3 hx3 h2=>.ix1 hx3 8 rfl fun b1 ob1=>.ld ob1 0 0 rfl<|.alloc rfl rfl fun g4=>.sb 0 0 rfl<|.bf [5,6,10,62,63,64] [0] 1 rfl rfl<|.a 1 rfl<|.lb 0 0 rfl<|.bd h2 fun r5 hr5 h2=>.cv [1] (zBd hr5) zUW rfl<|.bf [5,6,62,63,64,71] [] 1 rfl rfl<|.cb h2 rfl (fun h2=>?_) (fun h2=>?_)
   ·refine .abf [4] [2,2,2,2,2,2] 3 rfl rfl ?_;cases h2;cases hd2 _ rfl
    have h:some _=some _:=h;cases h;exact .rv rfl rfl ⟨rfl,rfl⟩ (zl [0,0] 4 rfl)
   refine .skip<|.blkN<|.thenN<|.pr [5,6,62,63,64] rfl<|.region ?_;cases h2;exact .be rfl<|.ag () hm2 rfl zw
  refine .xq rfl ?_;cases h2;cases hd2 _ rfl
  exact .thenN<|.hereI () () rfl (zb rfl) (zl [1,1,1,1,1,1,1] 2 rfl)
 rintro o5 e5 ho;subst ho;have h:=unR h;refine .abf [4] [] 1 rfl rfl ?_;cases h;exact .rv rfl rfl ⟨rfl,rfl⟩ (zl [0,0] 4 rfl)
theorem zXP:Ent Tryz.prog 36:=en Tryz.func36 (by kernel_rfl)
noncomputable def tZ (d_p0:zA):Option zA:=
 some (⟨d_p0.size,d_p0.bytes,d_p0.wear,d_p0.steps,0,d_p0.torn,false⟩:zA)
theorem bH {d_p0 A1 c1 A2 c2 gb1 r} (h:tZ d_p0=some r):
    Fun Tryz.prog 36 [.pointer (some ⟨gb1,0,none⟩)] [.res (Box gb1 131 (zG d_p0 A1 c1 A2 c2)), .res (zM eu8 5 A1 c1 d_p0.bytes), .res (zM yH 3 A2 c2 d_p0.wear)] (fun v F=>∃ A3 c3 A4 c4,v= .tuple #[]∧F= [.res (Box gb1 131 (zG r A3 c3 A4 c4)), .res (zM eu8 5 A3 c3 r.bytes), .res (zM yH 3 A4 c4 r.wear)]):=by
 unfold tZ at h
 refine Fun.intro Tryz.func36 rfl rfl rfl fun w R=>?_;refine .region<|.n 4 rfl<|.sb 6 0 rfl<|.n 2 rfl<|.sb 4 0 rfl<|.done ?_;cases h;exact .finN' Tryz.results36 .nil rfl _ ⟨A1,c1,A2,c2,rfl,rfl⟩ (fun _ w=>w)
noncomputable def nT (codes:(List Int)):Option Bool:=
 bnd (jL) fun r1=>bif !r1 then (some false) else (bnd (fU codes 300) fun r2=>bnd (sZ r2 5) fun r3=>bnd (yG (τ:=List zB) (fun (s1:Int × List zB)=>bif decide (s1.1<(r3.2.length:Int)) then (bnd (elt s1.2 s1.1) fun x1=>bnd (tH s1.2 s1.1 (⟨x1.Name,(⟨(⟨(⟨x1.Slots.e0.Image.Name,(⟨1,0,0⟩:zK),x1.Slots.e0.Image.Data⟩:zH),x1.Slots.e0.Sum⟩:yB),x1.Slots.e1⟩:(rA yB)),x1.Active,x1.Running,x1.Trial⟩:zB)) fun l1=>bnd (elt l1 s1.1) fun x2=>bnd (elt l1 s1.1) fun x3=>bnd (sD x2.Slots.e0.Image) fun r4=>bnd (tH l1 s1.1 (⟨x3.Name,(⟨(⟨x3.Slots.e0.Image,r4⟩:yB),x3.Slots.e1⟩:(rA yB)),x3.Active,x3.Running,x3.Trial⟩:zB)) fun l2=>some (.next (IntKind.wrap .i64 (s1.1+1),l2))) else (some (.done s1.2))) (0,r3.2)) fun o1=>bnd (jR r3.1 o1) fun r5=>bnd (lF 2 1024) fun r6=>zEp r6.1 (bif (r6.2 != 0) then (some false) else (none)) (fun q1=>bif (r6.2 != 0) then (some false) else (bnd (xI q1 0) fun r7=>zEp r7.2.1 (none) (fun q2=>bnd (wS q2 o1 r5.2 r7.1) fun r8=>zEp r8.2.2.1 (bnd ((bif (r7.2.2 != 0) then (some ()) else (bif (r8.2.2.2 != 0) then (some ()) else (some ())):Option Unit)) fun o2=>some false) (fun q3=>bnd ((bif (r7.2.2 != 0) then (some true) else (bif (r8.2.2.2 != 0) then (some true) else (some false)):Option Bool)) fun o3=>bif o3 then (some false) else (bnd (yG (τ:=Bool ⊕ (List Int × Int × Int × List Int × List Int × Int × Int × Int × Bool)) (fun (s2:(zD × zC) × Int × List Int × Int × Int × List Int × List Int × Int × Int × Int × Bool)=>bnd ((bif decide (s2.2.1<30) then (bnd (vP (⟨s2.2.2.1,s2.2.2.2.1⟩:xY)) fun r9=>some r9) else (some false):Option Bool)) fun o6=>bif o6 then (bnd ((bnd (zY (⟨s2.2.2.1,s2.2.2.2.1⟩:xY) 8) fun r10=>bnd ((bif (r10.2==0) then (some (r10.2==0)) else (some (r10.2==1)):Option Bool)) fun o8=>bif o8 then (bnd (wK s2.1.1) fun r11=>bnd (jQ r10.1 r11 r5.2) fun r12=>bnd (xG s2.1.1 (r12.2.length:Int) 64) fun r13=>bif (r13.2==0) then (bnd (yG (τ:=zD) (fun (s3:zD × Int)=>bif decide ((IntKind.wrap .i64 (s3.2*64))<(r12.2.length:Int)) then (bnd (sub r12.2 (IntKind.wrap .i64 (s3.2*64)) (min (r12.2.length:Int) (IntKind.wrap .i64 ((IntKind.wrap .i64 (s3.2+1))*64)))) fun l3=>bnd (vC s3.1 s3.2 l3) fun r14=>some (.next (r14.1,IntKind.wrap .i64 (s3.2+1)))) else (some (.done s3.1))) (r13.1,0)) fun o9=>some (0,s2.1.2,o9,(⟨s2.2.2.2.2.1,s2.2.2.2.2.2.1,s2.2.2.2.2.2.2.1,s2.2.2.2.2.2.2.2.1,s2.2.2.2.2.2.2.2.2.1,s2.2.2.2.2.2.2.2.2.2.1,s2.2.2.2.2.2.2.2.2.2.2⟩:zA),r12.1.L,r12.1.At)) else (some (0,s2.1.2,r13.1,(⟨s2.2.2.2.2.1,s2.2.2.2.2.2.1,s2.2.2.2.2.2.2.1,s2.2.2.2.2.2.2.2.1,s2.2.2.2.2.2.2.2.2.1,s2.2.2.2.2.2.2.2.2.2.1,s2.2.2.2.2.2.2.2.2.2.2⟩:zA),r12.1.L,r12.1.At))) else (bnd ((bif (r10.2==2) then (some (r10.2==2)) else (some (r10.2==3)):Option Bool)) fun o10=>bif o10 then (bnd (yZ s2.1.1 s2.1.2 (⟨s2.2.2.2.2.1,s2.2.2.2.2.2.1,s2.2.2.2.2.2.2.1,s2.2.2.2.2.2.2.2.1,s2.2.2.2.2.2.2.2.2.1,s2.2.2.2.2.2.2.2.2.2.1,s2.2.2.2.2.2.2.2.2.2.2⟩:zA)) fun r15=>some (r15.2.2.2,r15.2.1,r15.1,r15.2.2.1,r10.1.L,r10.1.At)) else (bnd ((bif (r10.2==4) then (some (r10.2==4)) else (some (r10.2==5)):Option Bool)) fun o11=>bif o11 then (bnd (zY r10.1 4) fun r16=>bnd (yW s2.1.1 (decide (r16.2<3)) s2.1.2 (⟨s2.2.2.2.2.1,s2.2.2.2.2.2.1,s2.2.2.2.2.2.2.1,s2.2.2.2.2.2.2.2.1,s2.2.2.2.2.2.2.2.2.1,s2.2.2.2.2.2.2.2.2.2.1,s2.2.2.2.2.2.2.2.2.2.2⟩:zA)) fun r17=>some (r17.2.2.2.2,r17.2.1,r17.1,r17.2.2.1,r16.1.L,r16.1.At)) else (bif (r10.2==6) then (bnd (zY r10.1 60) fun r18=>bnd (zY r18.1 256) fun r19=>bnd (qZ (⟨s2.2.2.2.2.1,s2.2.2.2.2.2.1,s2.2.2.2.2.2.2.1,s2.2.2.2.2.2.2.2.1,s2.2.2.2.2.2.2.2.2.1,s2.2.2.2.2.2.2.2.2.2.1,s2.2.2.2.2.2.2.2.2.2.2⟩:zA) (IntKind.wrap .i64 (1+r18.2)) (IntKind.wrap .u8 r19.2)) fun r20=>some (0,s2.1.2,s2.1.1,r20,r19.1.L,r19.1.At)) else (bif (r10.2==7) then (some (10,s2.1.2,s2.1.1,(⟨s2.2.2.2.2.1,s2.2.2.2.2.2.1,s2.2.2.2.2.2.2.1,s2.2.2.2.2.2.2.2.1,s2.2.2.2.2.2.2.2.2.1,s2.2.2.2.2.2.2.2.2.2.1,s2.2.2.2.2.2.2.2.2.2.2⟩:zA),r10.1.L,r10.1.At)) else (some (0,s2.1.2,s2.1.1,(⟨s2.2.2.2.2.1,s2.2.2.2.2.2.1,s2.2.2.2.2.2.2.1,s2.2.2.2.2.2.2.2.1,s2.2.2.2.2.2.2.2.2.1,s2.2.2.2.2.2.2.2.2.2.1,s2.2.2.2.2.2.2.2.2.2.2⟩:zA),r10.1.L,r10.1.At)))))):Option (Int × zC × zD × zA × List Int × Int))) fun o7=>bnd (mA o7.2.2.1 r5.2) fun r21=>bif !r21 then (some (.done (.inl false))) else (bif (o7.1 != 10) then (some (.next ((o7.2.2.1,o7.2.1),IntKind.wrap .i64 (s2.2.1+1),o7.2.2.2.2.1,o7.2.2.2.2.2,o7.2.2.2.1.size,o7.2.2.2.1.bytes,o7.2.2.2.1.wear,o7.2.2.2.1.steps,o7.2.2.2.1.left,o7.2.2.2.1.torn,o7.2.2.2.1.down))) else (bnd (wK o7.2.2.1) fun r22=>bnd (zY (⟨o7.2.2.2.2.1,o7.2.2.2.2.2⟩:xY) (r22.length:Int)) fun r23=>bnd ((bnd (elt r22 r23.2) fun x4=>bnd (pU x4) fun r24=>bif (r24.2==0) then (bnd (elt r22 r23.2) fun x5=>bnd (tH r22 r23.2 r24.1) fun l4=>bnd (zY r23.1 2) fun r25=>bif (r25.2==0) then (bnd (oO r24.1) fun r26=>bnd (elt l4 r23.2) fun x6=>bnd (tH l4 r23.2 r26) fun l5=>some (l5,r25.1.L,r25.1.At)) else (some (l4,r25.1.L,r25.1.At))) else (some (r22,r23.1.L,r23.1.At)):Option (List zB × List Int × Int))) fun o12=>bnd (tZ o7.2.2.2.1) fun r27=>bnd (xI r27 0) fun r28=>zEp r28.2.1 (none) (fun q4=>bnd (wS q4 o12.1 r5.2 r28.1) fun r29=>zEp r29.2.2.1 (bnd ((bif (r28.2.2 != 0) then (some ()) else (bif (r29.2.2.2 != 0) then (some ()) else (some ())):Option Unit)) fun o13=>some (.done (.inl false))) (fun q5=>bnd ((bif (r28.2.2 != 0) then (some true) else (bif (r29.2.2.2 != 0) then (some true) else (bnd (mA q5 r5.2) fun r30=>some (!r30))):Option Bool)) fun o14=>bif o14 then (some (.done (.inl false))) else (some (.next ((q5,r29.1),IntKind.wrap .i64 (s2.2.1+1),o12.2.1,o12.2.2,r29.2.1.size,r29.2.1.bytes,r29.2.1.wear,r29.2.1.steps,r29.2.1.left,r29.2.1.torn,r29.2.1.down)))))))) else (some (.done (.inr (s2.2.2.1,s2.2.2.2.1,s2.2.2.2.2.1,s2.2.2.2.2.2.1,s2.2.2.2.2.2.2.1,s2.2.2.2.2.2.2.2.1,s2.2.2.2.2.2.2.2.2.1,s2.2.2.2.2.2.2.2.2.2.1,s2.2.2.2.2.2.2.2.2.2.2))))) ((q3,r8.1),0,r5.1.L,r5.1.At,r8.2.1.size,r8.2.1.bytes,r8.2.1.wear,r8.2.1.steps,r8.2.1.left,r8.2.1.torn,r8.2.1.down)) fun o4=>wT o4 fun o5=>some true))))))
theorem zAW {codes A1 c1 r} (h:nT codes=some r):
    Fun Tryz.prog 4 [.slice A1 codes.length c1] [.ro (SlL eu8 A1 c1 codes), .ro (zGA 0 [(2,some 315),(3,some 316)])] (Val (.bool r)):=by
 refine Fun.intro Tryz.func4 rfl rfl rfl fun w R=>?_;refine .ab [0] rfl<|.seq<|.seq<|.region<|.bd h fun r1 hr1 h=>.cv [1] (zHc hr1) zXN rfl<|.b [0,21] rfl<|.cb h rfl (fun h=>?_) (fun h=>?_)
 ·refine .abf [2] [] 1 rfl rfl ?_;cases h;exact .rv rfl rfl ⟨rfl,rfl⟩ (zl [] 1 rfl)
 refine .sk<|.pr [0] rfl<|.a 1 rfl<|.bd h fun r2 hr2 h=>.call (zKo hr2) zXa rfl rfl rfl (zd [0] [] 0 rfl) ?_;rintro _ _ ⟨g1,A2,c2,rfl,rfl⟩;refine .nm 4 rfl<|.bf [3] [0,0] 1 rfl rfl<|.a 1 rfl<|.bd h fun r3 hr3 h=>.ct 5 [1] [1] 0 (bX hr3) zXE rfl fun A3 c3 A4 c4=>.bf [3,4] [0,0,0] 1 rfl rfl<|.seq<|.ab [3,4,27,28] rfl<|.bd h fun o1 hl1 h=>.cutK 3 (fun (e2:Option Addr × Nat)=>[3, .s 4 (.slice e2.1 o1.length e2.2)]) (fun e2=>[.res (xK (yL zE) 64 e2.1 e2.2 o1),0,1]) rfl rfl ?_ ?_
 ·refine .block<|.loopQ hl1 3 (fun (s1:Int × List zB) (e1:Option Addr × Nat)=>[3, .s 4 (.slice e1.1 s1.2.length e1.2),27, .s 28 (.int .i64 s1.1)]) (fun s1 e1=>[.res (xK (yL zE) 64 e1.1 e1.2 s1.2),0,1]) rfl rfl (A4,c4) (zb rfl) (zl [2] 0 rfl) ?_;rintro s1 ⟨A5,c5⟩ st1 hm1 hd1 h1;refine .ae rfl<|.seq<|.cb h1 rfl (fun h1=>?_) (fun h1=>?_)
  ·refine .sk<|.pr [3,4,27,28] rfl<|.seq<|.block<|.ab [3,4,5,27,28] rfl<|.a 3 rfl<|.bd h1 fun x1 hx1 h1=>.ixC hx1 rfl rfl rfl (.head _) rfl rfl rfl rfl rfl fun g2 hA=>?_;subst hA;refine .n 4 rfl<|.bd h1 fun l1 hl1 h1=>.stC (ls:=zE) 2 (fun ex=>((ex.1.1,ex.1.2),((ex.2.1.1,ex.2.1.2),()))) hx1 hl1 rfl rfl .z rfl rfl rfl rfl (fun _=>rfl) (fun _=>⟨(.head _),(.tail _ (.head _)),trivial⟩) ?_;refine .ss 4 (wZ hl1) ?_;refine .ss 31 (wZ hl1)<|.b [3,4,5,27,28] rfl<|.regionX (iN [0,4,8,12,17,20,24,28,40,44,35,39,48,52,59] .nil) _ mixed (by kernel_rfl) (zl [] 1 rfl)<|.yn 4 rfl<|.bd h1 fun x2 hx2 h1=>.xfx (Rd.ixOC (n':=16) hx2 rfl rfl rfl rfl rfl rfl rfl) rfl<|.yn 3 rfl<|.bd h1 fun x3 hx3 h1=>.xfl (fun _ h=>h) (Rd.ixOC (n':=16) hx3 rfl rfl rfl rfl rfl rfl rfl) rfl<|.yn 1 rfl<|.xef<|.ldC (ls:=zE) 1 (fun ex=>.agg (xJ x2.Slots.e0.Image ex.1.1 ex.1.2).toArray) hx2 rfl rfl (.head _) rfl (fun _=>rfl) fun ex1=>?_;obtain ⟨⟨A7,c7⟩,⟨⟨A8,c8⟩,_⟩⟩:=ex1;refine .nm 6 rfl<|.xk (zl [] 3 rfl)<|.xef<|.bd h1 fun r4 hr4 h1=>.cv [0] (kL hr4) zLO rfl<|.xk (zl [] 3 rfl)<|.yn 2 rfl<|.xef<|.bd h1 fun l2 hl2 h1=>.stC (ls:=zE) 6 (fun ex=>((ex.1.1,ex.1.2),((ex.2.1.1,ex.2.1.2),()))) hx3 hl2 rfl rfl (.s (.s .z)) rfl rfl rfl rfl (fun _=>rfl) (fun _=>⟨(.head _),(.tail _ (.head _)),trivial⟩) ?_;refine .ss 4 (wZ hl2) ?_;refine .ss 39 (wZ hl2) ?_;refine .ss 41 (wZ hl2)<|.xk (zl [] 3 rfl)<|.xdone<|.blkN<|.thenN<|.pf [3,4,27,28] [0] 2 rfl rfl<|.region ?_;cases h1;exact .be rfl<|.ag ((some ⟨g2,0,none⟩),c5) hm1 rfl zw
  refine .xq rfl ?_;cases h1;cases hd1 _ rfl
  exact .thenN<|.hE (A5,c5) rfl zw
 rintro ⟨A6,c6⟩;refine .a 2 rfl<|.asrt (fun _ w=>w.meltC)<|.bd h fun r5 hr5 h=>.ct 6 [2,1] [2] 0 (zHh hr5) zXy rfl fun A9 c9 A10 c10=>.bf [3,4,6] [0,0,0,0] 1 rfl rfl<|.seq<|.region<|.bd h fun r6 hr6 h=>.call (zEi hr6) zVg rfl rfl rfl (fun _ w=>w) ?_
 intro v_ F_ hp_
 rcases hq1:r6.1 with _ | q1
 ·replace hp_:=aK hq1 hp_;replace h:=zAj hq1 h;obtain ⟨rfl,rfl⟩:=hp_;refine .nm 5 rfl<|.b [3,4,6,7,8] rfl<|.seq<|.ab [3,4,6,7,62] rfl<|.cb h rfl (fun h=>?_) (fun h=>?_)
  ·refine .abf [2] [] 4 rfl rfl ?_;cases h;exact .rv rfl rfl ⟨rfl,rfl⟩ (zl [] 1 rfl)
  refine .sk<|.pr [3,4,6,7] rfl<|.a 1 rfl ?_;cases h
 replace hp_:=zAd hq1 hp_;replace h:=aG hq1 h;obtain ⟨g5,A11,c11,A12,c12,rfl,rfl⟩:=hp_;refine .nm 8 rfl<|.b [3,4,6,7,8] rfl<|.seq<|.ab [3,4,6,7,62] rfl<|.cb h rfl (fun h=>?_) (fun h=>?_)
 ·refine .abf [2] [] 7 rfl rfl ?_;cases h;exact .rv rfl rfl ⟨rfl,rfl⟩ (zl [] 1 rfl)
 refine .sk<|.pr [3,4,6,7] rfl<|.a 1 rfl<|.bd h fun r7 hr7 h=>.call (iP hr7) zSn rfl rfl rfl (fun _ w=>w) ?_
 intro v_ F_ hp_
 rcases hq2:r7.2.1 with _ | q2
 ·replace hp_:=aK hq2 hp_;replace h:=zAj hq2 h;obtain ⟨A13,c13,A14,c14,rfl,rfl⟩:=hp_;refine .nm 8 rfl<|.b [3,4,6,7,9,10] rfl<|.a 3 rfl ?_;cases h
 replace hp_:=zAd hq2 hp_;replace h:=aG hq2 h;obtain ⟨g6,A15,c15,A16,c16,M1,rfl,rfl⟩:=hp_;refine .nm 10 rfl<|.b [3,4,6,7,9,10] rfl<|.a 3 rfl<|.asrt (fun _ w=>(w.sl [7] 0 rfl).meltL)<|.bd h fun r8 hr8 h=>.call (eX (gb1:=g6) (gb2:=g5) hr8) zST rfl rfl rfl (zd [8,5,9] [4,4,1,1,1] 0 rfl) ?_
 intro v_ F_ hp_
 rcases hq3:r8.2.2.1 with _ | q3
 ·replace hp_:=aK hq3 hp_;replace h:=zAj hq3 h;obtain ⟨M2,A17,c17,A18,c18,rfl,rfl⟩:=hp_;refine .nm 10 rfl<|.bf [3,6,7,10,11,12] [2,2,2,2,2,2] 3 rfl rfl<|.seq<|.seq<|.bd h fun o2 hj1 h=>.cu 0 [3,6,7,11, .s 84 (.bool true)] [] rfl rfl ?_ ?_
  ·refine .region<|.n 3 rfl<|.gs 77 hj1 rfl (fun hj1=>?_) (fun hj1=>?_)
   ·cases hj1;exact .be rfl<|.hU rfl zw
   refine .n 4 rfl<|.gs 81 hj1 rfl (fun hj1=>?_) (fun hj1=>?_)
   ·cases hj1;exact .be rfl<|.hU rfl zw
   cases hj1;exact .be rfl<|.hU rfl zw
  refine .condT rfl<|.abf [2] [] 6 rfl rfl ?_;cases h;exact .rv rfl rfl ⟨rfl,rfl⟩ (zl [] 1 rfl)
 replace hp_:=zAd hq3 hp_;replace h:=aG hq3 h;obtain ⟨g7,M3,A19,c19,A20,c20,A21,c21,A22,c22,A23,c23,A24,c24,A25,c25,rfl,rfl⟩:=hp_;refine .nm 16 rfl<|.bf [3,6,7,10,11,12] [0,0,0,0,0,0,0,0,0,0,0,0,0,0] 1 rfl rfl<|.seq<|.seq<|.bd h fun o3 hj2 h=>.cu 0 [3,6,7,11, .s 84 (.bool o3)] [] rfl rfl ?_ ?_
 ·refine .region<|.n 3 rfl<|.gs 77 hj2 rfl (fun hj2=>?_) (fun hj2=>?_)
  ·cases hj2;exact .be rfl<|.hU rfl zw
  refine .n 4 rfl<|.gs 81 hj2 rfl (fun hj2=>?_) (fun hj2=>?_)
  ·cases hj2;exact .be rfl<|.hU rfl zw
  cases hj2;exact .be rfl<|.hU rfl zw
 refine .cb h rfl (fun h=>?_) (fun h=>?_)
 ·refine .abf [2] [] 14 rfl rfl ?_;cases h;exact .rv rfl rfl ⟨rfl,rfl⟩ (zl [] 1 rfl)
 refine .sk<|.pr [3,6,7,11] rfl<|.seq<|.ae rfl<|.bd h fun o4 hl2 h=>.cutJ 14 (fun (o5:List Int × Int × Int × List Int × List Int × Int × Int × Int × Bool) (e6:Option Addr × Nat × Option Addr × Nat × Option Addr × Nat)=>[]) (fun o5 e6=>[]) rfl rfl (fun o5=>o4= .inr o5) ?_ ?_
 ·refine .block<|.loopQ hl2 14 (fun (s2:(zD × zC) × Int × List Int × Int × Int × List Int × List Int × Int × Int × Int × Bool) (e5:Nat × Nat × Option Addr × Nat × Option Addr × Nat × Option Addr × Nat × Option Addr × Nat × Option Addr × Nat × Option Nat × Option Addr × Nat × Option Addr × Nat × Option Addr × Nat)=>[3,6,7, .s 11 (.pointer (some ⟨e5.1,0,none⟩)), .s 13 (.int .i64 s2.2.1)]) (fun s2 e5=>[.res (zM yH 3 e5.2.2.2.2.2.2.2.2.2.2.2.2.2.2.2.2.2.1 e5.2.2.2.2.2.2.2.2.2.2.2.2.2.2.2.2.2.2 s2.2.2.2.2.2.2.1), .res (zM eu8 5 e5.2.2.2.2.2.2.2.2.2.2.2.2.2.2.2.1 e5.2.2.2.2.2.2.2.2.2.2.2.2.2.2.2.2.1 s2.2.2.2.2.2.1), .ro (SlL eu8 e5.2.2.2.2.2.2.2.2.2.2.2.2.2.1 e5.2.2.2.2.2.2.2.2.2.2.2.2.2.2.1 s2.2.2.1), .res (yO (yF .u8) (cod eu8) e5.2.2.2.2.2.2.2.2.2.2.2.2.1 s2.1.2.all), .ro (SlL yH e5.2.2.2.2.2.2.2.2.2.2.1 e5.2.2.2.2.2.2.2.2.2.2.2.1 s2.1.1.order), .ro (SlL eu8 e5.2.2.2.2.2.2.2.2.1 e5.2.2.2.2.2.2.2.2.2.1 s2.1.1.load.Data), .ro (SlL yU e5.2.2.2.2.2.2.1 e5.2.2.2.2.2.2.2.1 s2.1.1.load.Have), .ro (SlL zR e5.2.2.2.2.1 e5.2.2.2.2.2.1 s2.1.1.needs), .res (xK (yL zE) 64 e5.2.2.1 e5.2.2.2.1 s2.1.1.devices), .res (Box e5.2.1 135 (zO s2.1.2 g5 e5.2.2.2.2.2.2.2.2.2.2.2.2.1)), .res (Box e5.1 144 (zI s2.1.1 e5.2.1 e5.2.2.1 e5.2.2.2.1 e5.2.2.2.2.1 e5.2.2.2.2.2.1 e5.2.2.2.2.2.2.1 e5.2.2.2.2.2.2.2.1 e5.2.2.2.2.2.2.2.2.1 e5.2.2.2.2.2.2.2.2.2.1 e5.2.2.2.2.2.2.2.2.2.2.1 e5.2.2.2.2.2.2.2.2.2.2.2.1)), .res (Box g5 131 [.int .i64 s2.2.2.2.2.1, .slice e5.2.2.2.2.2.2.2.2.2.2.2.2.2.2.2.1 s2.2.2.2.2.2.1.length e5.2.2.2.2.2.2.2.2.2.2.2.2.2.2.2.2.1, .slice e5.2.2.2.2.2.2.2.2.2.2.2.2.2.2.2.2.2.1 s2.2.2.2.2.2.2.1.length e5.2.2.2.2.2.2.2.2.2.2.2.2.2.2.2.2.2.2, .int .i64 s2.2.2.2.2.2.2.2.1, .int .i64 s2.2.2.2.2.2.2.2.2.1, .int .u8 s2.2.2.2.2.2.2.2.2.2.1, .bool s2.2.2.2.2.2.2.2.2.2.2]),11, .res (Box g1 127 [.slice e5.2.2.2.2.2.2.2.2.2.2.2.2.2.1 s2.2.2.1.length e5.2.2.2.2.2.2.2.2.2.2.2.2.2.2.1, .int .i64 s2.2.2.2.1])]) rfl rfl (g7,g6,A21,c21,A22,c22,A23,c23,A24,c24,A25,c25,M3,A9,c9,A19,c19,A20,c20) (zb rfl) (zl [8,7,10,5,3,2,1,0,3,0,1] 0 rfl) ?_;rintro s2 ⟨g8,g9,A26,c26,A27,c27,A28,c28,A29,c29,A30,c30,M4,A31,c31,A32,c32,A33,c33⟩ st2 hm2 hd2 h2;refine .seq<|.seq<|.bd h2 fun o6 hj3 h2=>.cu 0 [3,6,7,11,13, .s 90 (.bool o6)] [] rfl rfl ?_ ?_
  ·refine .region<|.n 3 rfl<|.gs 87 hj3 rfl (fun hj3=>?_) (fun hj3=>?_)
   ·refine .n 1 rfl<|.gOn rfl rfl<|.bd hj3 fun r9 hr9 hj3=>.cq 15 [3] [13] 0 (mO hr9) zRA rfl ?_;cases hj3;exact .be rfl<|.hU rfl (zl [1,1,1,1,1,1,1,1,1,1,1,1,1] 0 rfl)
   cases hj3;exact .be rfl<|.hU rfl zw
  refine .cb h2 rfl (fun h2=>?_) (fun h2=>?_)
  ·refine .sk<|.pr [3,6,7,11,13] rfl<|.seq<|.block<|.ae rfl<|.seq<|.bd h2 fun o7 hj4 h2=>.cutK 14 (fun (e8:Option Nat × Option Addr × Nat × Option Addr × Nat × Option Addr × Nat × Option Addr × Nat × Option Addr × Nat × Option Addr × Nat × Option Addr × Nat × Option Addr × Nat)=>[3,6,7, .s 8 (.int .i64 o7.1),11,13]) (fun e8=>[.ro (SlL eu8 e8.2.2.2.2.2.2.2.2.2.2.2.2.2.2.2.1 e8.2.2.2.2.2.2.2.2.2.2.2.2.2.2.2.2 o7.2.2.2.2.1), .res (zM yH 3 e8.2.2.2.2.2.2.2.2.2.2.2.2.2.1 e8.2.2.2.2.2.2.2.2.2.2.2.2.2.2.1 o7.2.2.2.1.wear), .res (zM eu8 5 e8.2.2.2.2.2.2.2.2.2.2.2.1 e8.2.2.2.2.2.2.2.2.2.2.2.2.1 o7.2.2.2.1.bytes), .ro (SlL yH e8.2.2.2.2.2.2.2.2.2.1 e8.2.2.2.2.2.2.2.2.2.2.1 o7.2.2.1.order), .ro (SlL eu8 e8.2.2.2.2.2.2.2.1 e8.2.2.2.2.2.2.2.2.1 o7.2.2.1.load.Data), .ro (SlL yU e8.2.2.2.2.2.1 e8.2.2.2.2.2.2.1 o7.2.2.1.load.Have), .ro (SlL zR e8.2.2.2.1 e8.2.2.2.2.1 o7.2.2.1.needs), .res (xK (yL zE) 64 e8.2.1 e8.2.2.1 o7.2.2.1.devices), .res (yO (yF .u8) (cod eu8) e8.1 o7.2.1.all), .res (Box g9 135 (zO o7.2.1 g5 e8.1)), .res (Box g8 144 (zI o7.2.2.1 g9 e8.2.1 e8.2.2.1 e8.2.2.2.1 e8.2.2.2.2.1 e8.2.2.2.2.2.1 e8.2.2.2.2.2.2.1 e8.2.2.2.2.2.2.2.1 e8.2.2.2.2.2.2.2.2.1 e8.2.2.2.2.2.2.2.2.2.1 e8.2.2.2.2.2.2.2.2.2.2.1)), .res (Box g5 131 (zG o7.2.2.2.1 e8.2.2.2.2.2.2.2.2.2.2.2.1 e8.2.2.2.2.2.2.2.2.2.2.2.2.1 e8.2.2.2.2.2.2.2.2.2.2.2.2.2.1 e8.2.2.2.2.2.2.2.2.2.2.2.2.2.2.1)),12, .res (Box g1 127 [.slice e8.2.2.2.2.2.2.2.2.2.2.2.2.2.2.2.1 o7.2.2.2.2.1.length e8.2.2.2.2.2.2.2.2.2.2.2.2.2.2.2.2, .int .i64 o7.2.2.2.2.2])]) rfl rfl ?_ ?_
   ·refine .a 1 rfl<|.bd hj4 fun r10 hr10 hj4=>.cr 16 [3] [13] 0 (yA hr10) oZ rfl fun A45 c45=>.bf [3,6,7,8,11,13,94] [0,0,0,0] 1 rfl rfl<|.block<|.seq<|.bd hj4 fun o8 hj5 hj4=>.cu 0 [3,6,7,8,11,13,94, .s 95 (.bool o8)] [] rfl rfl ?_ ?_
    ·refine .ab [3,6,7,8,11,13,94,95] rfl<|.cb hj5 rfl (fun hj5=>?_) (fun hj5=>?_)
     ·cases hj5;exact .sk<|.hU rfl zw
     refine .region ?_;cases hj5;exact .be rfl<|.hU rfl zw
    refine .cb hj4 rfl (fun hj4=>?_) (fun hj4=>?_)
    ·refine .a 2 rfl<|.bd hj4 fun r11 hr11 hj4=>.cr 16 [10,9,8,7] [11,9] 0 (pA (gb1:=g8) hr11) zQn rfl fun A46 c46=>.p rfl rfl<|.asrt (fun _ w=>(w.sl [2] 0 rfl).meltC)<|.bd hj4 fun r12 hr12 hj4=>.ct 18 [4,1,14] [4] 0 (zGT hr12) zWY rfl fun A47 c47 A48 c48=>.bf [3,6,7,8,11,13,14] [0,0,0,1,1] 2 rfl rfl<|.a 3 rfl<|.bd hj4 fun r13 hr13 hj4=>.call (iC (gb1:=g8) hr13) zVe rfl rfl rfl (zd [11,10,9,8,15] [3,3] 0 rfl) ?_;rintro _ _ ⟨A49,c49,A50,c50,A51,c51,A52,c52,A53,c53,rfl,rfl⟩;refine .nm 20 rfl<|.bf [3,6,7,8,11,13,14,107] [0,0,0,0,0,0,0,0,0,0,0,0] 4 rfl rfl<|.cb hj4 rfl (fun hj4=>?_) (fun hj4=>?_)
     ·refine .ab [3,6,7,8,11,13,14,15] rfl<|.asrt (fun _ w=>(w.sl [8] 0 rfl).meltL)<|.bd hj4 fun o9 hl3 hj4=>.selfThen<|.cutK 7 (fun (e11:Option Addr × Nat × Option Addr × Nat × Option Addr × Nat × Option Addr × Nat × Option Addr × Nat)=>[3,6,7,8,11,13]) (fun e11=>[.ro (SlL yH e11.2.2.2.2.2.2.2.2.1 e11.2.2.2.2.2.2.2.2.2 o9.order), .ro (SlL eu8 e11.2.2.2.2.2.2.1 e11.2.2.2.2.2.2.2.1 o9.load.Data), .ro (SlL yU e11.2.2.2.2.1 e11.2.2.2.2.2.1 o9.load.Have), .ro (SlL zR e11.2.2.1 e11.2.2.2.1 o9.needs), .res (xK (yL zE) 64 e11.1 e11.2.1 o9.devices), .res (Box g8 144 (zI o9 g9 e11.1 e11.2.1 e11.2.2.1 e11.2.2.2.1 e11.2.2.2.2.1 e11.2.2.2.2.2.1 e11.2.2.2.2.2.2.1 e11.2.2.2.2.2.2.2.1 e11.2.2.2.2.2.2.2.2.1 e11.2.2.2.2.2.2.2.2.2))]) rfl rfl ?_ ?_
      ·refine .block<|.loopQ hl3 7 (fun (s3:zD × Int) (e10:Option Addr × Nat × Option Addr × Nat × Option Addr × Nat × Option Addr × Nat × Option Addr × Nat)=>[3,6,7,8,11,13,14, .s 15 (.int .i64 s3.2)]) (fun s3 e10=>[.ro (SlL yH e10.2.2.2.2.2.2.2.2.1 e10.2.2.2.2.2.2.2.2.2 s3.1.order), .ro (SlL eu8 e10.2.2.2.2.2.2.1 e10.2.2.2.2.2.2.2.1 s3.1.load.Data), .ro (SlL yU e10.2.2.2.2.1 e10.2.2.2.2.2.1 s3.1.load.Have), .ro (SlL zR e10.2.2.1 e10.2.2.2.1 s3.1.needs), .res (xK (yL zE) 64 e10.1 e10.2.1 s3.1.devices),0, .res (Box g8 144 (zI s3.1 g9 e10.1 e10.2.1 e10.2.2.1 e10.2.2.2.1 e10.2.2.2.2.1 e10.2.2.2.2.2.1 e10.2.2.2.2.2.2.1 e10.2.2.2.2.2.2.2.1 e10.2.2.2.2.2.2.2.2.1 e10.2.2.2.2.2.2.2.2.2))]) rfl rfl (A49,c49,A50,c50,A51,c51,A52,c52,A53,c53) (zb rfl) (zl [4,3,2,1,2] 0 rfl) ?_;rintro s3 ⟨A54,c54,A55,c55,A56,c56,A57,c57,A58,c58⟩ st3 hm3 hd3 h3;refine .seq<|.ab [3,6,7,8,11,13,14,15,112] rfl<|.cb h3 rfl (fun h3=>?_) (fun h3=>?_)
       ·refine .sk<|.pr [3,6,7,8,11,13,14,15] rfl<|.seq<|.block<|.region<|.n 11 rfl<|.bd h3 fun l3 hl3 h3=>.sub (E:=(cod eu8)) rfl rfl (zm 5 rfl) rfl rfl rfl rfl rfl rfl rfl hl3 fun A64 c64=>.bd h3 fun r14 hr14 h3=>.call (nX (gb1:=g8) hr14) zSJ rfl rfl rfl (zd [6,5,4,3,2] [7,5] 0 rfl) ?_;rintro _ _ ⟨A65,c65,A66,c66,A67,c67,A68,c68,A69,c69,rfl,rfl⟩;refine .nm 21 rfl<|.done<|.blkN<|.thenN<|.pf [3,6,7,8,11,13,14,15] [0,0,0,0,0,0] 5 rfl rfl<|.region ?_;cases h3;exact .be rfl<|.ag (A65,c65,A66,c66,A67,c67,A68,c68,A69,c69) hm3 rfl (zl [3,2,1,0,1,1] 0 rfl)
       refine .xq rfl ?_;cases h3;cases hd3 _ rfl
       exact .thenN<|.hE (A54,c54,A55,c55,A56,c56,A57,c57,A58,c58) rfl (zl [0,0,0,0,0] 1 rfl)
      rintro ⟨A59,c59,A60,c60,A61,c61,A62,c62,A63,c63⟩;refine .blkN ?_;cases hj4;exact .thenN<|.hE (M4,A59,c59,A60,c60,A61,c61,A62,c62,A63,c63,A32,c32,A33,c33,A47,c47) rfl (zl [6,7,7,0,0,0,0,0,2,2,0,1,1] 0 rfl)
     refine .skip<|.blkN ?_;cases hj4;exact .thenN<|.hE (M4,A49,c49,A50,c50,A51,c51,A52,c52,A53,c53,A32,c32,A33,c33,A47,c47) rfl (zl [6,8,8,3,2,1,0,1,3,3,0,2,2,0] 1 rfl)
    refine .seq<|.bd hj4 fun o10 hj6 hj4=>.cu 0 [3,6,7,8,11,13,94, .s 128 (.bool o10)] [] rfl rfl ?_ ?_
    ·refine .ab [3,6,7,8,11,13,94,128] rfl<|.cb hj6 rfl (fun hj6=>?_) (fun hj6=>?_)
     ·cases hj6;exact .sk<|.hU rfl zw
     refine .region ?_;cases hj6;exact .be rfl<|.hU rfl zw
    refine .cb hj4 rfl (fun hj4=>?_) (fun hj4=>?_)
    ·refine .region<|.p rfl rfl<|.bd hj4 fun r15 hr15 hj4=>.call (kT (gb1:=g8) (gb2:=g9) (gb3:=g5) hr15) zUZ rfl rfl rfl (zd [12,11,10,9] [11,9,9,4,8,3,2] 0 rfl) ?_;rintro _ _ ⟨A70,c70,A71,c71,A72,c72,A73,c73,A74,c74,M6,A75,c75,A76,c76,rfl,rfl⟩;refine .nm 19 rfl<|.p rfl rfl<|.done<|.blkN ?_;cases hj4;exact .thenN<|.hE (M6,A70,c70,A71,c71,A72,c72,A73,c73,A74,c74,A75,c75,A76,c76,A45,c45) rfl (zl [11,10,9,3,2,1,0,1,2,1,0,0,5,0] 4 rfl)
    refine .seq<|.bd hj4 fun o11 hj7 hj4=>.cu 0 [3,6,7,8,11,13,94, .s 133 (.bool o11)] [] rfl rfl ?_ ?_
    ·refine .ab [3,6,7,8,11,13,94,133] rfl<|.cb hj7 rfl (fun hj7=>?_) (fun hj7=>?_)
     ·cases hj7;exact .sk<|.hU rfl zw
     refine .region ?_;cases hj7;exact .be rfl<|.hU rfl zw
    refine .cb hj4 rfl (fun hj4=>?_) (fun hj4=>?_)
    ·refine .region<|.n 2 rfl<|.bd hj4 fun r16 hr16 hj4=>.cr 16 [1] [1] 0 (yA hr16) oZ rfl fun A77 c77=>.p rfl rfl<|.bd hj4 fun r17 hr17 hj4=>.call (nW (gb1:=g8) (gb2:=g9) (gb3:=g5) hr17) zRI rfl rfl rfl (zd [13,12,11,10,15] [12,10,10,5,9,4,3] 0 rfl) ?_;rintro _ _ ⟨A78,c78,A79,c79,A80,c80,A81,c81,A82,c82,M7,A83,c83,A84,c84,rfl,rfl⟩;refine .nm 20 rfl<|.n 4 rfl<|.done<|.blkN ?_;cases hj4;exact .thenN<|.hE (M7,A78,c78,A79,c79,A80,c80,A81,c81,A82,c82,A83,c83,A84,c84,A77,c77) rfl (zl [11,10,9,3,2,1,0,1,2,1,0,0,6,0] 5 rfl)
    refine .ab [3,6,7,8,11,13,94,144] rfl<|.cb hj4 rfl (fun hj4=>?_) (fun hj4=>?_)
    ·refine .region<|.n 2 rfl<|.bd hj4 fun r18 hr18 hj4=>.cr 16 [1] [1] 0 (yA hr18) oZ rfl fun A85 c85=>.n 2 rfl<|.bd hj4 fun r19 hr19 hj4=>.cr 17 [1] [1] 0 (yA hr19) oZ rfl fun A86 c86=>.p rfl rfl<|.bd hj4 fun r20 hr20 hj4=>.ct 17 [] [14,5,4] 0 (zBH hr20) zXT rfl fun A87 c87 A88 c88=>.done<|.blkN ?_;cases hj4;exact .thenN<|.hE (M4,A26,c26,A27,c27,A28,c28,A29,c29,A30,c30,A87,c87,A88,c88,A86,c86) rfl (zl [3,2,1,5,5,5,5,5,4,4,4,0,3,0] 2 rfl)
    refine .ab [3,6,7,8,11,13,154] rfl<|.cb hj4 rfl (fun hj4=>?_) (fun hj4=>?_)
    ·refine .region<|.p rfl rfl<|.done<|.blkN ?_;cases hj4;exact .thenN<|.hE (M4,A26,c26,A27,c27,A28,c28,A29,c29,A30,c30,A32,c32,A33,c33,A45,c45) rfl (zl [0,1,1,2,2,2,2,2,1,1,1,1,1] 0 rfl)
    refine .skip<|.blkN ?_;cases hj4;exact .thenN<|.hE (M4,A26,c26,A27,c27,A28,c28,A29,c29,A30,c30,A32,c32,A33,c33,A45,c45) rfl (zl [0,1,1,2,2,2,2,2,1,1,1,1,1] 0 rfl)
   rintro ⟨M5,A37,c37,A38,c38,A39,c39,A40,c40,A41,c41,A42,c42,A43,c43,A44,c44⟩;refine .seq<|.a 2 rfl<|.bd h2 fun r21 hr21 h2=>.cq 15 [8,7,6,5,12] [10,7] 0 (zAX (gb1:=g8) hr21) zVh rfl<|.b [3,6,7,8,11,13,159] rfl<|.cb h2 rfl (fun h2=>?_) (fun h2=>?_)
   ·refine .abf [2] [] 14 rfl rfl ?_;cases h2;cases hd2 _ rfl
    have h:some _=some _:=h;cases h;exact .rv rfl rfl ⟨rfl,rfl⟩ (zl [] 1 rfl)
   refine .sk<|.pr [3,6,7,8,11,13] rfl<|.seq<|.ab [3,6,7,11,13,161] rfl<|.cb h2 rfl (fun h2=>?_) (fun h2=>?_)
   ·refine .xq rfl<|.thenN<|.pr [3,6,7,11,13] rfl<|.region ?_;cases h2;exact .be rfl<|.ag (g8,g9,A37,c37,A38,c38,A39,c39,A40,c40,A41,c41,M5,A44,c44,A42,c42,A43,c43) hm2 rfl (zl [3,3,2,6,2,2,2,2,1,1] 0 rfl)
   refine .sk<|.pr [3,6,7,11,13] rfl<|.a 1 rfl<|.bd h2 fun r22 hr22 h2=>.cr 16 [8,7,6,5] [] 0 (pA (gb1:=g8) hr22) zQn rfl fun A89 c89=>.bf [3,6,7,13,16] [2,2,2,2] 8 rfl rfl<|.a 3 rfl<|.bd h2 fun r23 hr23 h2=>.cr 9 [2] [6] 0 (yA hr23) oZ rfl fun A90 c90=>.bf [3,6,7,13,16,17] [0,0,0] 1 rfl rfl<|.seq<|.bd h2 fun o12 hj8 h2=>.cutK 3 (fun (e14:Option Addr × Nat × Option Addr × Nat)=>[3,6,7,13, .s 16 (.slice e14.1 o12.1.length e14.2.1)]) (fun e14=>[.ro (SlL eu8 e14.2.2.1 e14.2.2.2 o12.2.1), .res (xK (yL zE) 64 e14.1 e14.2.1 o12.1), .res (Box g1 127 [.slice e14.2.2.1 o12.2.1.length e14.2.2.2, .int .i64 o12.2.2])]) rfl rfl ?_ ?_
   ·refine .a 2 rfl<|.bd hj8 fun x4 hx4 hj8=>.ixC hx4 rfl rfl rfl (zm 2 rfl) rfl rfl rfl rfl rfl fun g10 hA=>?_;subst hA;refine .ldC (ls:=zE) 0 (fun ex=>.agg (zN x4 ex.1.1 ex.1.2 ex.2.1.1 ex.2.1.2).toArray) hx4 rfl rfl (zm 2 rfl) rfl (fun _=>rfl) fun ex2=>?_;obtain ⟨⟨A93,c93⟩,⟨⟨A94,c94⟩,_⟩⟩:=ex2;refine .nm 10 rfl<|.bd hj8 fun r24 hr24 hj8=>.ct 12 [0,1] [] 0 (eU hr24) zTm rfl fun A95 c95 A96 c96=>.n 3 rfl<|.alloc rfl rfl fun g11=>.sb 0 0 rfl<|.bf [3,6,7,13,16,17,18,19] [0,0,0] 2 rfl rfl<|.ab [3,6,7,13,16,17,18,177] rfl<|.cb hj8 rfl (fun hj8=>?_) (fun hj8=>?_)
    ·refine .a 2 rfl<|.lb 0 0 rfl<|.bd hj8 fun x5 hx5 hj8=>.ixC hx5 rfl rfl rfl (zm 5 rfl) rfl rfl rfl rfl rfl fun g12 hA=>?_;cases hA;refine .bd hj8 fun l4 hl4 hj8=>.stC (ls:=zE) 0 (fun ex=>((A95,c95),((A96,c96),()))) hx5 hl4 rfl rfl (.s (.s (.s (.s (.s .z))))) rfl rfl rfl rfl (fun _=>rfl) (fun _=>⟨(zm 3 rfl),(zm 4 rfl),trivial⟩) ?_;refine .ss 16 (wZ hl4) ?_;refine .ss 178 (wZ hl4)<|.b [3,6,7,13,16,17,18] rfl<|.a 1 rfl<|.bd hj8 fun r25 hr25 hj8=>.cr 12 [5] [5] 0 (yA hr25) oZ rfl fun A97 c97=>.bf [3,6,7,13,16,17,18,184] [0,0,0,0,0,0] 1 rfl rfl<|.cb hj8 rfl (fun hj8=>?_) (fun hj8=>?_)
     ·refine .region<|.n 2 rfl<|.lb 0 3 rfl<|.bd hj8 fun r26 hr26 hj8=>.ct 13 [4,5] [] 0 (jW hr26) zHy rfl fun A98 c98 A99 c99=>.bd hj8 fun x6 hx6 hj8=>.ixC hx6 rfl rfl rfl (zm 4 rfl) rfl rfl rfl rfl rfl fun g13 hA=>?_;cases hA;refine .bd hj8 fun l5 hl5 hj8=>.stC (ls:=zE) 0 (fun ex=>((A98,c98),((A99,c99),()))) hx6 hl5 rfl rfl (.s (.s (.s (.s .z)))) rfl rfl rfl rfl (fun _=>rfl) (fun _=>⟨(zm 2 rfl),(zm 3 rfl),trivial⟩) ?_;refine .ss 16 (wZ hl5) ?_;refine .ss 185 (wZ hl5)<|.done ?_;cases hj8;exact .thenN<|.hE ((some ⟨g10,0,none⟩),c89,A97,c97) rfl (zl [3,0,2] 5 rfl)
     cases hj8;exact .sk<|.hE ((some ⟨g10,0,none⟩),c89,A97,c97) rfl (zl [0,1,0] 3 rfl)
    cases hj8;exact .sk<|.hE ((some ⟨g10,0,none⟩),c89,A90,c90) rfl (zl [3,4] 3 rfl)
   rintro ⟨A91,c91,A92,c92⟩;refine .a 1 rfl<|.bd h2 fun r27 hr27 h2=>.ct 8 [] [5,4,3] 0 (bH hr27) zXP rfl fun A100 c100 A101 c101=>.b [3,6,7,13,16] rfl<|.a 1 rfl<|.bd h2 fun r28 hr28 h2=>.call (iP hr28) zSn rfl rfl rfl (fun _ w=>w) ?_
   intro v_ F_ hp_
   rcases hq4:r28.2.1 with _ | q4
   ·replace hp_:=aK hq4 hp_;replace h2:=zAj hq4 h2;obtain ⟨A102,c102,A103,c103,rfl,rfl⟩:=hp_;refine .nm 8 rfl<|.b [3,6,7,9,10,13,16] rfl<|.a 3 rfl ?_;cases h2
   replace hp_:=zAd hq4 hp_;replace h2:=aG hq4 h2;obtain ⟨g14,A104,c104,A105,c105,M8,rfl,rfl⟩:=hp_;refine .nm 10 rfl<|.b [3,6,7,9,10,13,16] rfl<|.a 3 rfl<|.asrt (fun _ w=>(w.sl [6] 0 rfl).meltC)<|.bd h2 fun r29 hr29 h2=>.call (eX (gb1:=g14) (gb2:=g5) hr29) zST rfl rfl rfl (zd [5,8,9] [4,4,1,1,1] 0 rfl) ?_
   intro v_ F_ hp_
   rcases hq5:r29.2.2.1 with _ | q5
   ·replace hp_:=aK hq5 hp_;replace h2:=zAj hq5 h2;obtain ⟨M9,A106,c106,A107,c107,rfl,rfl⟩:=hp_;refine .nm 10 rfl<|.bf [3,6,7,10,11,12,13] [2,2,2] 3 rfl rfl<|.seq<|.bd h2 fun o13 hj9 h2=>.cu 0 [3,6,7,11,13, .s 219 (.bool true)] [] rfl rfl ?_ ?_
    ·refine .region<|.n 3 rfl<|.gs 206 hj9 rfl (fun hj9=>?_) (fun hj9=>?_)
     ·cases hj9;exact .be rfl<|.hU rfl zw
     refine .n 4 rfl<|.gs 210 hj9 rfl (fun hj9=>?_) (fun hj9=>?_)
     ·cases hj9;exact .be rfl<|.hU rfl zw
     cases hj9;exact .be rfl<|.hU rfl zw
    refine .condT rfl<|.abf [2] [] 6 rfl rfl ?_;cases h2;cases hd2 _ rfl
    have h:some _=some _:=h;cases h;exact .rv rfl rfl ⟨rfl,rfl⟩ (zl [] 1 rfl)
   replace hp_:=zAd hq5 hp_;replace h2:=aG hq5 h2;obtain ⟨g15,M10,A108,c108,A109,c109,A110,c110,A111,c111,A112,c112,A113,c113,A114,c114,rfl,rfl⟩:=hp_;refine .nm 16 rfl<|.bf [3,6,7,10,11,12,13] [0,0,0,0,0,0,0,0,0,0,0] 1 rfl rfl<|.seq<|.bd h2 fun o14 hj10 h2=>.cu 0 [3,6,7,11,13, .s 219 (.bool o14)] [] rfl rfl ?_ ?_
   ·refine .region<|.n 3 rfl<|.gs 206 hj10 rfl (fun hj10=>?_) (fun hj10=>?_)
    ·cases hj10;exact .be rfl<|.hU rfl zw
    refine .n 4 rfl<|.gs 210 hj10 rfl (fun hj10=>?_) (fun hj10=>?_)
    ·cases hj10;exact .be rfl<|.hU rfl zw
    refine .n 6 rfl<|.gOn rfl rfl<|.bd hj10 fun r30 hr30 hj10=>.cq 15 [2,3,4,5,13] [9,9] 0 (zAX (gb1:=g15) hr30) zVh rfl ?_;cases hj10;exact .be rfl<|.hU rfl (zl [2,2,2,2,2,2,2,2,2] 0 rfl)
   refine .cb h2 rfl (fun h2=>?_) (fun h2=>?_)
   ·refine .abf [2] [] 14 rfl rfl ?_;cases h2;cases hd2 _ rfl
    have h:some _=some _:=h;cases h;exact .rv rfl rfl ⟨rfl,rfl⟩ (zl [] 1 rfl)
   refine .skip<|.blkN<|.thenN<|.pr [3,6,7,11,13] rfl<|.region ?_;cases h2;exact .be rfl<|.ag (g15,g14,A110,c110,A111,c111,A112,c112,A113,c113,A114,c114,M10,A92,c92,A108,c108,A109,c109) hm2 rfl (zl [8,7,9,5,3,2,1,0,3,0,1,0,1] 0 rfl)
  refine .xq rfl ?_;cases h2;cases hd2 _ rfl
  exact .thenN<|.hereI (s2.2.2.1,s2.2.2.2.1,s2.2.2.2.2.1,s2.2.2.2.2.2.1,s2.2.2.2.2.2.2.1,s2.2.2.2.2.2.2.2.1,s2.2.2.2.2.2.2.2.2.1,s2.2.2.2.2.2.2.2.2.2.1,s2.2.2.2.2.2.2.2.2.2.2) (A31,c31,A32,c32,A33,c33) rfl trivial (zl [] 14 rfl)
 rintro o5 ⟨A34,c34,A35,c35,A36,c36⟩ ho;subst ho;have h:=unR h;refine .ae rfl ?_;cases h;exact .rv rfl rfl ⟨rfl,rfl⟩ (zl [] 1 rfl)
end Go.Proofs.YtplchdlgdjcojaaGreatDoor
end
section
namespace Go.Proofs.YtplchdlgdjcojaaGreatDoor
open Go
set_option linter.unusedSimpArgs false
set_option linter.unusedVariables false
def rng (l:List Int):Prop:=∀ x∈l,0≤x∧x≤255
theorem rng.nil:rng []:=fun x h=>by cases h
theorem rng.app {l m:List Int} (h:rng l) (k:rng m):rng (l++m):=fun x hx=>by
 rcases List.mem_append.1 hx with hx | hx
 ·exact h x hx
 ·exact k x hx
theorem rng.cons {x:Int} {l:List Int} (h:0≤x∧x≤255) (k:rng l):rng (x::l):=fun y hy=>by
 rcases List.mem_cons.1 hy with rfl | hy
 ·exact h
 ·exact k y hy
theorem rng.sub {l m:List Int} (h:rng l) (k:∀ x∈m,x∈l):rng m:=fun x hx=>h x (k x hx)
theorem rng.take {l:List Int} (h:rng l) (n:Nat):rng (l.take n):=h.sub fun _ hx=>List.mem_of_mem_take hx
theorem rng.drop {l:List Int} (h:rng l) (n:Nat):rng (l.drop n):=h.sub fun _ hx=>List.mem_of_mem_drop hx
theorem rng.set {l:List Int} (h:rng l) (n:Nat) {v:Int} (hv:0≤v∧v≤255):rng (l.set n v):=fun x hx=>by
 rcases List.mem_or_eq_of_mem_set hx with hx | hx
 ·exact h x hx
 ·subst hx; exact hv
theorem rng.get {l:List Int} (h:rng l) (i:Nat):0≤l.getD i 0∧l.getD i 0≤255:=by
 rw [List.getD_eq_getElem?_getD]
 cases hi:l[i]? with
 | none=>exact ⟨Int.le_refl 0,by decide⟩
 | some x=>exact h x (List.mem_of_getElem? hi)
theorem rng.rep {n:Nat} {v:Int} (hv:0≤v∧v≤255):rng (List.replicate n v):=fun x hx=>by
 obtain ⟨_,rfl⟩:=List.mem_replicate.1 hx
 exact hv
theorem sX {x:Int} (h:0≤x∧x≤255):∃ n:Nat,n<256∧x=(n:Int):=⟨x.toNat,by omega,by omega⟩
theorem zRa {x y:Int} (hx:0≤x∧x≤255) (hy:0≤y∧y≤255):0≤rK .u8 x y∧rK .u8 x y≤255:=by
 obtain ⟨a,ha,rfl⟩:=sX hx
 obtain ⟨b,hb,rfl⟩:=sX hy
 rw [zJr ha hb]
 have:=Nat.and_lt_two_pow (n:=8) a (y:=b) hb
 omega
theorem zSU {x y:Int} (hx:0≤x∧x≤255) (hy:0≤y∧y≤255):0≤iOr .u8 x y∧iOr .u8 x y≤255:=by
 obtain ⟨a,ha,rfl⟩:=sX hx
 obtain ⟨b,hb,rfl⟩:=sX hy
 rw [zDC ha hb]
 have:=Nat.or_lt_two_pow (n:=8) ha hb
 omega
theorem zRS {x:Int} (hx:0≤x∧x≤255):rK .u8 255 x=x:=by
 obtain ⟨a,ha,rfl⟩:=sX hx
 have:(255:Int)=((255:Nat):Int):=rfl
 rw [this,zJr (by decide) ha,Nat.and_comm]
 have e:a&&&255=a % 2 ^ 8:=Nat.and_two_pow_sub_one_eq_mod a 8
 rw [e]
 omega
theorem zXg {x:Int} (hx:0≤x∧x≤255):iOr .u8 x 255=255:=by
 obtain ⟨a,ha,rfl⟩:=sX hx
 have:(255:Int)=((255:Nat):Int):=rfl
 rw [this,zDC ha (by decide)]
 have h:∀ a:Fin 256,a.val|||255=255:=by decide+kernel
 rw [h ⟨a,ha⟩]
theorem or_zero {x y:Int} (hx:0≤x∧x≤255) (hy:0≤y∧y≤255):iOr .u8 x y=0↔x=0∧y=0:=by
 obtain ⟨a,ha,rfl⟩:=sX hx
 obtain ⟨b,hb,rfl⟩:=sX hy
 rw [zDC ha hb]
 have:=@Nat.or_eq_zero_iff a b
 omega
theorem zVl {x:Int} (hx:0≤x∧x≤255):iOr .u8 x 0=x:=by
 obtain ⟨a,ha,rfl⟩:=sX hx
 have:(0:Int)=((0:Nat):Int):=rfl
 rw [this,zDC ha (by decide),Nat.or_zero]
structure OkD (d:zA):Prop where
 size:64≤d.size∧d.size≤1024
 wear:1≤d.wear.length∧d.wear.length≤16
 len:(d.bytes.length:Int)=d.wear.length*d.size
 rng:rng d.bytes
 torn:0≤d.torn∧d.torn≤255
 left:0≤d.left∧d.left≤9223372036854775807
theorem OkD.bound {d:zA} (h:OkD d):d.bytes.length≤16384:=by
 have h1:=h.len
 have h2:=h.size
 have h3:=h.wear
 have:(d.wear.length:Int)*d.size≤16*1024:=Int.mul_le_mul (by omega) (by omega) (by omega) (by omega)
 omega
def xP (d:zA):zA × Bool:=
 if 0<d.left then (⟨d.size,d.bytes,d.wear,IntKind.wrap .i64 (d.steps+1),d.left - 1,d.torn,d.left - 1==0⟩,d.left - 1==0)
 else (⟨d.size,d.bytes,d.wear,IntKind.wrap .i64 (d.steps+1),d.left,d.torn,d.down⟩,d.down)
theorem zND {d:zA} (h:OkD d):vD d=some (xP d):=by
 unfold vD xP
 by_cases hl:0<d.left
 ·rw [xB (by simpa using hl),if_pos hl,yN (x:=d.left - 1) (by have:=h.left; omega) (by have:=h.left; omega)]
 ·rw [yP (by simpa using hl),if_neg hl]
theorem vH (d:zA):(xP d).1.bytes=d.bytes:=by unfold xP; split <;> rfl
theorem kZ (d:zA):(xP d).1.size=d.size:=by unfold xP; split <;> rfl
theorem fD (d:zA):(xP d).1.wear=d.wear:=by unfold xP; split <;> rfl
theorem oV (d:zA):(xP d).1.torn=d.torn:=by unfold xP; split <;> rfl
theorem zBv {d:zA} (h:d.down=false):(xP d).1.down=(xP d).2:=by unfold xP; split <;> rfl
theorem dS {d:zA} (h:OkD d):OkD (xP d).1:=by
 refine ⟨by rw [kZ]; exact h.size,by rw [fD]; exact h.wear,by rw [vH,fD,kZ]; exact h.len,by rw [vH]; exact h.rng,by rw [oV]; exact h.torn,?_⟩
 have:=h.left
 unfold xP
 split <;> simp only <;> omega
def wrB (d:zA) (i:Nat) (v:Int):zA:=⟨d.size,d.bytes.set i v,d.wear,d.steps,d.left,d.torn,d.down⟩
theorem zJE {d:zA} (h:OkD d) (i:Nat) {v:Int} (hv:0≤v∧v≤255):OkD (wrB d i v):=
 ⟨h.size,h.wear,by show ((d.bytes.set i v).length:Int)=_; rw [List.length_set]; exact h.len,h.rng.set i hv,h.torn,h.left⟩
def pO:zA→Nat→List Int→zA × Int
 | d,_, []=>(d,0)
 | d,i,x::b=>
  if (xP d).2 then (wrB (xP d).1 i (rK .u8 (d.bytes.getD i 0) (iOr .u8 x d.torn)),10)
  else pO (wrB (xP d).1 i (rK .u8 (d.bytes.getD i 0) x)) (i+1) b
theorem zLu:∀ (b:List Int) (d:zA) (i:Nat),OkD d→rng b→OkD (pO d i b).1∧(pO d i b).1.size=d.size∧(pO d i b).1.wear=d.wear∧(pO d i b).1.bytes.length=d.bytes.length∧(pO d i b).1.torn=d.torn
 | [],d,i,h,_=>⟨h,rfl,rfl,rfl,rfl⟩
 | x::b,d,i,h,hb=>by
  have hx:=hb x (by simp)
  unfold pO
  split
  ·exact ⟨zJE (dS h) i (zRa (h.rng.get i) (zSU hx h.torn)),kZ d,fD d,by simp [wrB,vH],oV d⟩
  ·obtain ⟨h1,h2,h3,h4,h5⟩:=zLu b (wrB (xP d).1 i (rK .u8 (d.bytes.getD i 0) x)) (i+1) (zJE (dS h) i (zRa (h.rng.get i) hx)) (fun y hy=>hb y (by simp [hy]))
   exact ⟨h1,h2.trans (kZ d),h3.trans (fD d),by rw [h4]; simp [wrB,vH],h5.trans (oV d)⟩
theorem aR {l:List Int} {i:Nat} (h:i<l.length):elt l (i:Int)=some (l.getD i 0):=by
 rw [elt_nat,List.getD_eq_getElem?_getD,List.getElem?_eq_getElem h]
 rfl
theorem sR {α:Type} {l:List α} {i:Nat} (h:i<l.length) (v:α):tH l (i:Int) v=some (l.set i v):=by
 unfold tH
 rw [if_pos ⟨by omega,by omega⟩]
 simp
theorem zHk {d:zA} (h:OkD d) (at_ n:Int) (ha1: -4611686018427387904≤at_):uS d at_ n=some (decide (0≤at_∧at_≤d.bytes.length∧0≤n∧n≤d.bytes.length - at_)):=by
 have hb:=h.bound
 unfold uS
 by_cases h1:at_≥0
 ·rw [xB (by simpa using h1)]
  by_cases h2:at_≤(d.bytes.length:Int)
  ·rw [xB (by simpa using h2)]
   by_cases h3:n≥0
   ·rw [xB (by simpa using h3),bnd_some,yN (by omega) (by omega)]
    congr 1
    rw [decide_eq_decide]
    omega
   ·rw [yP (by simpa using h3),bnd_some]
    congr 1
    symm
    rw [decide_eq_false_iff_not]
    omega
  ·rw [yP (by simpa using h2),bnd_some]
   congr 1
   symm
   rw [decide_eq_false_iff_not]
   omega
 ·rw [yP (by simpa using h1),bnd_some]
  congr 1
  symm
  rw [decide_eq_false_iff_not]
  omega
noncomputable def aH (at_p1:Int) (b_p2:List Int):zA × Int→Option (rG (zA × Int) ((zA × Int) ⊕ zA)):=
 (fun (s1:zA × Int)=>bif decide (s1.2<(b_p2.length:Int)) then (bnd (elt b_p2 s1.2) fun x1=>bnd (vD s1.1) fun r2=>bif r2.2 then (bnd (elt r2.1.bytes (IntKind.wrap .i64 (at_p1+s1.2))) fun x2=>bnd (elt r2.1.bytes (IntKind.wrap .i64 (at_p1+s1.2))) fun x3=>bnd (elt r2.1.bytes (IntKind.wrap .i64 (at_p1+s1.2))) fun x4=>bnd (tH r2.1.bytes (IntKind.wrap .i64 (at_p1+s1.2)) (rK .u8 x3 (iOr .u8 x1 r2.1.torn))) fun l1=>some (.done (.inl ((⟨r2.1.size,l1,r2.1.wear,r2.1.steps,r2.1.left,r2.1.torn,r2.1.down⟩:zA),10)))) else (bnd (elt r2.1.bytes (IntKind.wrap .i64 (at_p1+s1.2))) fun x5=>bnd (tH r2.1.bytes (IntKind.wrap .i64 (at_p1+s1.2)) (rK .u8 x5 x1)) fun l2=>some (.next ((⟨r2.1.size,l2,r2.1.wear,r2.1.steps,r2.1.left,r2.1.torn,r2.1.down⟩:zA),IntKind.wrap .i64 (s1.2+1))))) else (some (.done (.inr s1.1))))
def zEH (r:zA × Int):(zA × Int) ⊕ zA:=if r.2=0 then .inr r.1 else .inl r
theorem zHD (at_:Nat) (b:List Int) (hr:rng b):∀ (rest:List Int) (j:Nat) (d:zA),OkD d→b.drop j=rest→j+rest.length=b.length→at_+b.length≤d.bytes.length→
  yG (aH (at_:Int) b) (d,(j:Int))=some (zEH (pO d (at_+j) rest))
 | [],j,d,hd,h1,h2,h3=>by
  refine xR ?_
  unfold aH
  simp only [List.length_nil] at h2
  rw [yP (by simp; omega)]
  rfl
 | x::rest,j,d,hd,h1,h2,h3=>by
  have hb:=hd.bound
  simp only [List.length_cons] at h2
  have hj:j<b.length:=by omega
  have hx:b[j]=x:=by
   have:=List.getElem_cons_drop (h:=hj)
   rw [h1] at this
   exact (List.cons.inj this).1
  have hrest:b.drop (j+1)=rest:=by
   have:=List.getElem_cons_drop (h:=hj)
   rw [h1] at this
   exact (List.cons.inj this).2
  have hxr:=hr x (by rw [←hx]; exact List.getElem_mem hj)
  have hi:at_+j<(xP d).1.bytes.length:=by rw [vH]; omega
  have hw:IntKind.wrap .i64 ((at_:Int)+(j:Int))=((at_+j:Nat):Int):=by rw [yN (by omega) (by omega)]; omega
  have hstep:aH (at_:Int) b (d,(j:Int))=some (if (xP d).2 then .done (.inl (wrB (xP d).1 (at_+j) (rK .u8 (d.bytes.getD (at_+j) 0) (iOr .u8 x d.torn)),10)) else .next (wrB (xP d).1 (at_+j) (rK .u8 (d.bytes.getD (at_+j) 0) x),((j+1:Nat):Int))):=by
   unfold aH
   simp only
   rw [xB (by simp; omega),yR hj,bnd_some,hx,zND hd,bnd_some]
   cases hf:(xP d).2
   ·rw [cond_false,hw,aR hi,bnd_some,sR hi,bnd_some,zQ hj (by omega),vH,if_neg (by decide)]
    simp only [wrB,vH]
   ·rw [cond_true,hw,aR hi,bnd_some,bnd_some,bnd_some,sR hi,bnd_some,vH,oV,if_pos rfl]
    simp only [wrB,vH,oV]
  cases hf:(xP d).2
  ·rw [hf] at hstep
   refine tN hstep ?_
   have:=zHD at_ b hr rest (j+1) (wrB (xP d).1 (at_+j) (rK .u8 (d.bytes.getD (at_+j) 0) x)) (zJE (dS hd) _ (zRa (hd.rng.get _) hxr)) hrest (by omega) (by simp [wrB,vH]; omega)
   rw [this]
   conv=>rhs; unfold pO
   rw [if_neg (by rw [hf]; decide)]
   rfl
  ·rw [hf] at hstep
   rw [xR hstep]
   conv=>rhs; unfold pO
   rw [if_pos hf]
   simp only [zEH]
   rw [if_neg (by decide)]
theorem zDJ:∀ (b:List Int) (d:zA) (i:Nat),(pO d i b).2=0∨(pO d i b).2=10
 | [],d,i=>.inl rfl
 | x::b,d,i=>by
  unfold pO
  split
  ·exact .inr rfl
  ·exact zDJ b _ _
theorem zLf (r:zA × Int) (h:r.2=0∨r.2=10):(wT (zEH r) fun o2=>some (o2,0))=some r:=by
 unfold zEH
 rcases h with h | h
 ·rw [if_pos h,retOr_inr,←h]
 ·rw [if_neg (by rw [h]; decide),retOr_inl]
def yC (d:zA) (at_:Int) (b:List Int):zA × Int:=
 if d.down then (d,10) else if 0≤at_∧at_≤d.bytes.length∧0≤(b.length:Int)∧(b.length:Int)≤d.bytes.length - at_ then pO d at_.toNat b else (d,2)
theorem cP {d:zA} (h:OkD d) {b:List Int} (hb:rng b) (at_:Int) (ha1: -4611686018427387904≤at_):wJ d at_ b=some (yC d at_ b):=by
 unfold wJ yC
 cases hd:d.down
 ·rw [cond_false,zHk h at_ _ ha1,bnd_some]
  by_cases hw:0≤at_∧at_≤d.bytes.length∧0≤(b.length:Int)∧(b.length:Int)≤d.bytes.length - at_
  ·rw [if_neg (by simp),if_pos hw,yP (by simp only [hw,decide_true]; rfl)]
   have:=zHD at_.toNat b hb b 0 d h rfl (by omega) (by omega)
   have e:((at_.toNat:Nat):Int)=at_:=by omega
   rw [e] at this
   unfold aH at this
   exact yD this (zLf _ (zDJ b d _))
  ·rw [if_neg (by simp),if_neg hw,xB (by rw [decide_eq_false hw]; rfl)]
 ·rw [cond_true,if_pos rfl]
theorem zJJ {d:zA} (h:OkD d) {b:List Int} (hb:rng b) (at_:Int):OkD (yC d at_ b).1∧(yC d at_ b).1.size=d.size∧(yC d at_ b).1.wear=d.wear∧(yC d at_ b).1.bytes.length=d.bytes.length∧(yC d at_ b).1.torn=d.torn:=by
 unfold yC
 split
 ·exact ⟨h,rfl,rfl,rfl,rfl⟩
 ·split
  ·exact zLu b d _ h hb
  ·exact ⟨h,rfl,rfl,rfl,rfl⟩
theorem kK {b:List Int} (h:b.length≤1000000):zP b=some b:=by
 unfold zP
 rw [uQ (by simp; omega) (by simp; omega),bnd_some]
 rfl
def zNQ (d:zA) (at_ n:Int):List Int × Int:=
 if d.down then ([],10) else if 0≤at_∧at_≤d.bytes.length∧0≤n∧n≤d.bytes.length - at_ then ((d.bytes.drop at_.toNat).take n.toNat,0) else ([],2)
theorem zON {d:zA} (h:OkD d) (at_ n:Int) (ha1: -4611686018427387904≤at_):uK d at_ n=some (d,zNQ d at_ n):=by
 have hb:=h.bound
 unfold uK zNQ
 cases hd:d.down
 ·rw [cond_false,zHk h at_ _ ha1,bnd_some]
  by_cases hw:0≤at_∧at_≤d.bytes.length∧0≤n∧n≤d.bytes.length - at_
  ·rw [if_neg (by simp),if_pos hw,yP (by simp only [hw,decide_true]; rfl),yN (by omega) (by omega)]
   obtain ⟨a,rfl⟩:∃ a:Nat,at_=(a:Int):=⟨at_.toNat,by omega⟩
   obtain ⟨k,rfl⟩:∃ k:Nat,n=(k:Int):=⟨n.toNat,by omega⟩
   have h1:lE d.bytes.length (a:Int) ((a:Int)+(k:Int))=some k:=by
    unfold lE
    rw [if_pos ⟨by omega,by omega,by omega⟩]
    congr 1
    omega
   have h2:Go.Proofs.YtplchdlgdjcojaaGreatDoor.sub d.bytes (((a:Int).toNat:Nat):Int) (((a:Int).toNat+k:Nat):Int)=some ((d.bytes.take (a+k)).drop a):=by
    unfold Go.Proofs.YtplchdlgdjcojaaGreatDoor.sub
    rw [if_pos ⟨by omega,by omega,by omega⟩]
    congr 2
   rw [h1,bnd_some,h2,bnd_some,kK (by simp; omega),bnd_some]
   congr 3
   rw [List.take_drop,show (a:Int).toNat+(k:Int).toNat=a+k by omega]
   rfl
  ·rw [if_neg (by simp),if_neg hw,xB (by rw [decide_eq_false hw]; rfl)]
 ·rw [cond_true,if_pos rfl]
def orP (l:List Int) (lo n:Nat) (v:Int):List Int:=l.take lo++((l.drop lo).take n).map (fun x=>iOr .u8 x v)++l.drop (lo+n)
theorem zOv (l:List Int) (lo n:Nat) (v:Int) (h:lo+n≤l.length):(orP l lo n v).length=l.length:=by
 simp only [orP,List.length_append,List.length_take,List.length_map,List.length_drop]
 omega
theorem zUF {l:List Int} (h:rng l) (lo n:Nat) {v:Int} (hv:0≤v∧v≤255):rng (orP l lo n v):=by
 refine ((h.take lo).app fun x hx=>?_).app (h.drop _)
 obtain ⟨y,hy,rfl⟩:=List.mem_map.1 hx
 exact zSU (((h.drop lo).take n) y hy) hv
theorem zSl (l:List Int) (lo:Nat) (v:Int):orP l lo 0 v=l:=by simp [orP]
theorem zTd {l:List Int} {lo n:Nat} (v:Int) (h:lo+n<l.length):(orP l lo n v).set (lo+n) (iOr .u8 (l.getD (lo+n) 0) v)=orP l lo (n+1) v:=by
 unfold orP
 have h1:(l.take lo++((l.drop lo).take n).map (fun x=>iOr .u8 x v)).length=lo+n:=by
  simp only [List.length_append,List.length_take,List.length_map,List.length_drop]; omega
 have h2:l.drop (lo+n)=l[lo+n]::l.drop (lo+(n+1)):=(List.getElem_cons_drop (h:=h)).symm
 have h3:(l.drop lo).take (n+1)=(l.drop lo).take n++ [l[lo+n]]:=by
  rw [yY (by simp; omega)]
  simp
 rw [List.set_append_right _ _ (by omega),h1,Nat.sub_self,h2,List.set_cons_zero,h3,List.map_append,List.getD_eq_getElem?_getD,List.getElem?_eq_getElem h]
 simp
theorem zUf {l:List Int} {lo n:Nat} (v:Int) (h:lo+n<l.length):(orP l lo n v).getD (lo+n) 0=l.getD (lo+n) 0:=by
 unfold orP
 have h1:(l.take lo++((l.drop lo).take n).map (fun x=>iOr .u8 x v)).length=lo+n:=by
  simp only [List.length_append,List.length_take,List.length_map,List.length_drop]; omega
 rw [List.getD_eq_getElem?_getD,List.getD_eq_getElem?_getD,List.getElem?_append_right (by omega),h1,Nat.sub_self,List.getElem?_drop]
 simp
def wrW (d:zA) (i:Nat):zA:=⟨d.size,d.bytes,d.wear.set i (IntKind.wrap .i64 (d.wear.getD i 0+1)),d.steps,d.left,d.torn,d.down⟩
def wrA (d:zA) (b:List Int):zA:=⟨d.size,b,d.wear,d.steps,d.left,d.torn,d.down⟩
def tS (d:zA) (s:Int):zA × Int:=
 if d.down then (d,10) else if s<0∨s≥d.wear.length then (d,2) else
  (wrA (xP (wrW d s.toNat)).1 (orP d.bytes (s.toNat*d.size.toNat) d.size.toNat (if (xP (wrW d s.toNat)).2 then d.torn else 255)),if (xP (wrW d s.toNat)).2 then 10 else 0)
theorem zLZ {d:zA} (h:OkD d) (i:Nat):OkD (wrW d i):=
 ⟨h.size,by show 1≤(d.wear.set _ _).length∧(d.wear.set _ _).length≤16; rw [List.length_set]; exact h.wear,by show (d.bytes.length:Int)=((d.wear.set _ _).length:Int)*_; rw [List.length_set]; exact h.len,h.rng,h.torn,h.left⟩
theorem zVP {d:zA} (h:OkD d) {b:List Int} (hl:b.length=d.bytes.length) (hr:rng b):OkD (wrA d b):=
 ⟨h.size,h.wear,by show (b.length:Int)=_; rw [hl]; exact h.len,hr,h.torn,h.left⟩
theorem tO {d:zA} (h:OkD d) {k:Nat} (hk:k<d.wear.length):k*d.size.toNat+d.size.toNat≤d.bytes.length:=by
 have h1:=h.len
 have h2:=h.size
 obtain ⟨z,hz⟩:∃ z:Nat,d.size=(z:Int):=⟨d.size.toNat,by omega⟩
 rw [hz] at h1 ⊢
 have h3:d.bytes.length=d.wear.length*z:=by exact_mod_cast h1
 have h4:(k+1)*z≤d.wear.length*z:=Nat.mul_le_mul_right _ (by omega)
 rw [Nat.add_mul,Nat.one_mul] at h4
 show k*z+z≤_
 omega
theorem zQD {d:zA} (h:OkD d) (s:Int) (hs:s≤4611686018427387904):rS d s=some (tS d s):=by
 have hb:=h.bound
 unfold rS tS
 cases hd:d.down
 ·rw [cond_false,if_neg (by simp)]
  by_cases hs0:s<0
  ·rw [xB (by simpa using hs0),bnd_some,cond_true,if_pos (.inl hs0)]
  ·rw [yP (by simpa using hs0),bnd_some]
   by_cases hs1:s≥d.wear.length
   ·rw [xB (by simpa using hs1),if_pos (.inr hs1)]
   ·rw [yP (by simpa using hs1),if_neg (by omega)]
    obtain ⟨k,rfl⟩:∃ k:Nat,s=(k:Int):=⟨s.toNat,by omega⟩
    have hk:k<d.wear.length:=by omega
    have hk16:=h.wear
    have hok:=dS (zLZ h k)
    have hst:vD (⟨d.size,d.bytes,d.wear.set k (IntKind.wrap .i64 (d.wear.getD k 0+1)),d.steps,d.left,d.torn,false⟩:zA)=some (xP (wrW d k)):=by rw [←zND (zLZ h k)]; simp only [wrW,hd]
    rw [aR hk,bnd_some,sR hk,bnd_some,hst,bnd_some]
    have hz:=h.size
    obtain ⟨z,hzz⟩:∃ z:Nat,d.size=(z:Int):=⟨d.size.toNat,by omega⟩
    have hsz:(xP (wrW d k)).1.size=(z:Int):=(kZ _).trans hzz
    have hby:(xP (wrW d k)).1.bytes=d.bytes:=vH _
    have hse:=tO h hk
    rw [hzz] at hse
    have hkz:k*z≤16384:=by
     have:((z:Int)).toNat=z:=rfl
     rw [this] at hse
     omega
    have hse':k*z+z≤d.bytes.length:=hse
    have e1:IntKind.wrap .i64 ((k:Int)*(z:Int))=((k*z:Nat):Int):=by
     have:(k:Int)*(z:Int)=((k*z:Nat):Int):=by simp
     rw [this,yX (by omega)]
    have e2:IntKind.wrap .i64 (IntKind.wrap .i64 ((k:Int)+1)*(z:Int))=((k*z+z:Nat):Int):=by
     rw [yN (x:=(k:Int)+1) (by omega) (by omega)]
     have:((k:Int)+1)*(z:Int)=((k*z+z:Nat):Int):=by simp [Int.add_mul]
     rw [this,yX (by omega)]
    simp only [hsz,hby,e1,e2]
    have hpm:lE d.bytes.length ((k*z:Nat):Int) ((k*z+z:Nat):Int)=some z:=by
     unfold lE
     rw [if_pos ⟨by omega,by omega,by omega⟩]
     congr 1
     omega
    have ho:(bif (xP (wrW d k)).2 then some (xP (wrW d k)).1.torn else some 255)=some (if (xP (wrW d k)).2 then d.torn else 255):=by
     rw [oV]
     cases (xP (wrW d k)).2 <;> rfl
    rw [ho,bnd_some,hpm,bnd_some]
    generalize hv:(if (xP (wrW d k)).2=true then d.torn else 255)=v
    have hvr:0≤v∧v≤255:=by rw [←hv]; split; exact h.torn; decide
    have e3:(((k*z:Nat):Int)).toNat=k*z:=rfl
    rw [e3]
    refine xS (fun j=>(wrA (xP (wrW d k)).1 (orP d.bytes (k*z) j v),(j:Int))) z (wrA (xP (wrW d k)).1 (orP d.bytes (k*z) z v)) ?_ (fun j hj=>?_) ?_ ?_
    ·rw [zSl,←hby]; rfl
    ·have hlt:k*z+j<d.bytes.length:=by omega
     have hlt2:k*z+j<(orP d.bytes (k*z) j v).length:=by rw [zOv _ _ _ _ (by omega)]; exact hlt
     have hel:zIO (orP d.bytes (k*z) j v) (k*z) z (j:Int)=some (d.bytes.getD (k*z+j) 0):=by
      unfold zIO
      rw [if_pos ⟨by omega,by omega⟩]
      have:((k*z:Nat):Int)+(j:Int)=((k*z+j:Nat):Int):=by omega
      rw [this,aR hlt2,zUf v hlt]
     have hse2:tH (orP d.bytes (k*z) j v) (((k*z:Nat):Int)+(j:Int)) (iOr .u8 (d.bytes.getD (k*z+j) 0) v)=some (orP d.bytes (k*z) (j+1) v):=by
      have:((k*z:Nat):Int)+(j:Int)=((k*z+j:Nat):Int):=by omega
      rw [this,sR hlt2,zTd v hlt]
     simp only [wrA]
     rw [xB (by simp; omega),hel,bnd_some,bnd_some,hse2,bnd_some,zQ hj (by omega)]
    ·simp only
     rw [yP (by simp)]
    ·have e4:((z:Int)).toNat=z:=rfl
     have e5:((k:Int)).toNat=k:=rfl
     rw [hzz]
     simp only [e4,e5]
     cases hf:(xP (wrW d k)).2
     ·rw [hf] at hv
      rw [cond_false,←hv]
      rfl
     ·rw [hf] at hv
      rw [cond_true,←hv]
      rfl
 ·rw [cond_true,if_pos rfl]
theorem zIe {d:zA} (h:OkD d) (s:Int):OkD (tS d s).1∧(tS d s).1.size=d.size∧(tS d s).1.wear.length=d.wear.length∧(tS d s).1.bytes.length=d.bytes.length∧(tS d s).1.torn=d.torn:=by
 unfold tS
 split
 ·exact ⟨h,rfl,rfl,rfl,rfl⟩
 ·split
  ·exact ⟨h,rfl,rfl,rfl,rfl⟩
  ·rename_i hs
   have hk:s.toNat<d.wear.length:=by omega
   have hse:=tO h hk
   have hl:=zOv d.bytes (s.toNat*d.size.toNat) d.size.toNat (if (xP (wrW d s.toNat)).2 then d.torn else 255) hse
   have hvr:0≤(if (xP (wrW d s.toNat)).2 then d.torn else 255)∧(if (xP (wrW d s.toNat)).2 then d.torn else 255)≤255:=by split; exact h.torn; decide
   refine ⟨zVP (dS (zLZ h _)) ?_ (zUF h.rng _ _ hvr),kZ _,?_,hl,oV _⟩
   ·rw [vH]; exact hl
   ·show (xP (wrW d s.toNat)).1.wear.length=_
    rw [fD]
    simp [wrW]
def zFi (d:zA) (n t:Int):zA:=if d.down then d else ⟨d.size,d.bytes,d.wear,d.steps,max n 0,t,d.down⟩
theorem zTy {d:zA} (h:OkD d) {n t:Int} (hn:n≤9223372036854775807) (ht:0≤t∧t≤255):OkD (zFi d n t):=by
 unfold zFi
 split
 ·exact h
 ·exact ⟨h.size,h.wear,h.len,h.rng,ht,by show 0≤max n 0∧max n 0≤_; omega⟩
def nN (d:zA):zA:=⟨d.size,d.bytes,d.wear,d.steps,0,d.torn,false⟩
theorem zLw {d:zA} (h:OkD d):OkD (nN d):=⟨h.size,h.wear,h.len,h.rng,h.torn,by show 0≤(0:Int)∧(0:Int)≤_; decide⟩
end Go.Proofs.YtplchdlgdjcojaaGreatDoor
end
section
namespace Go.Proofs.YtplchdlgdjcojaaGreatDoor
open Go
set_option linter.unusedVariables false
set_option linter.unusedSimpArgs false
def wM (n:Nat):Nat:=(n+63) / 64
def dl (b:List Int) (k:Nat):xF:=⟨(b.length:Int),64,List.replicate k true++List.replicate (wM b.length - k) false,b.take (64*k)++List.replicate (b.length - 64*k) 0⟩
def zAO (b:List Int) (k:Nat):List Int:=(b.take (min (64*k+64) b.length)).drop (64*k)
theorem cI (b:List Int) (k:Nat):(dl b k).Data.length=b.length:=by
 simp only [dl,List.length_append,List.length_take,List.length_replicate]; omega
theorem zNO (b:List Int) {k:Nat} (h:k≤wM b.length):(dl b k).Have.length=wM b.length:=by
 simp only [dl,List.length_append,List.length_replicate]; omega
theorem zJY {n:Nat} (h1:1≤n) (h2:n≤8192):vY (n:Int) 64=some true:=by
 unfold vY
 rw [decide_eq_true (by omega:(n:Int)≥1),cond_true,decide_eq_true (by omega:(n:Int)≤8192)]
 rfl
theorem zPf {n:Nat} (h:n=0∨8192<n):vY (n:Int) 64=some false:=by
 unfold vY
 rcases h with rfl | h
 ·rfl
 ·rw [decide_eq_true (by omega:(n:Int)≥1),cond_true,decide_eq_false (by omega:¬ (n:Int)≤8192)]
  rfl
theorem zLp {n:Nat} (h2:n≤8192):sK (n:Int) 64=some (wM n:Int):=by
 unfold sK
 rw [show ((n:Int)+64)=((n+64:Nat):Int) by omega,yX (by omega),show (((n+64:Nat):Int) - 1)=((n+63:Nat):Int) by omega,yX (by omega)]
 unfold zOY
 rw [if_neg (by omega),bnd_some,show (64:Int)=((64:Nat):Int) from rfl,zSt,yX (by omega)]
 rfl
theorem zSe {b:List Int} (h1:1≤b.length) (h2:b.length≤8192):sQ (b.length:Int) 64=some (dl b 0,0):=by
 unfold sQ
 have hc:wM b.length≤200:=by unfold wM; omega
 rw [zJY h1 h2,bnd_some,Bool.not_true,cond_false,zLp h2,bnd_some]
 have e1:mkS 1 false (wM b.length:Int) (wM b.length:Int)=some (List.replicate (wM b.length) false):=by
  unfold mkS
  rw [if_pos ⟨by omega,by omega,by omega,by omega⟩]
  simp
 have e2:mkS 1 (0:Int) (b.length:Int) (b.length:Int)=some (List.replicate b.length 0):=by
  unfold mkS
  rw [if_pos ⟨by omega,by omega,by omega,by omega⟩]
  simp
 rw [e1,bnd_some,e2,bnd_some]
 simp [dl]
theorem zSY {n:Nat} (h:n=0∨8192<n):sQ (n:Int) 64=some (⟨0,0, [], []⟩,2):=by
 unfold sQ
 rw [zPf h,bnd_some]
 rfl
theorem zKh (D:xF) {n i:Nat} (hz:D.Size=(n:Int)) (hp:D.Part=64) (hl:D.Data.length=n) (h2:n≤8192) (hi:i<wM n):
  sN D (i:Int)=some ((D.Data.take (min (64*i+64) n)).drop (64*i)):=by
 unfold sN
 have hc:64*i<n:=by unfold wM at hi; omega
 rw [hp,hz,show ((i:Int)*64)=((64*i:Nat):Int) by omega,yX (by omega),show (((64*i:Nat):Int)+64)=((64*i+64:Nat):Int) by omega,yX (by omega)]
 have hm:min ((64*i+64:Nat):Int) (n:Int)=((min (64*i+64) n:Nat):Int):=by omega
 rw [hm]
 unfold sub
 rw [if_pos ⟨by omega,by omega,by omega⟩,bnd_some,Int.toNat_natCast,Int.toNat_natCast]
theorem zUd {l:List Int} (h:∀ x∈l,x=0) (hl:l.length≤1000000):xZ l=some false:=by
 unfold xZ vS
 refine yD (a:= -1) ?_ rfl
 refine xS (fun i=>(i:Int)) l.length (.inr ()) rfl (fun i hi=>?_) ?_ rfl
 ·have hx:=h _ (List.getElem_mem hi)
  rw [decide_eq_true (by omega:(i:Int)<(l.length:Int)),cond_true,yR hi,bnd_some,hx]
  unfold pD
  rw [bnd_some,zQ hi (by omega)]
  rfl
 ·rw [decide_eq_false (by omega:¬ (l.length:Int)<(l.length:Int))]
  rfl
theorem zSu {b:List Int} {k i:Nat} (hk:k≤i):∀ x∈((dl b k).Data.take (min (64*i+64) b.length)).drop (64*i),x=0:=by
 intro x hx
 have hd:((dl b k).Data.take (min (64*i+64) b.length)).drop (64*i)=((List.replicate (b.length - 64*k) (0:Int)).take (min (64*i+64) b.length - (b.take (64*k)).length)).drop (64*i - ((b.take (64*k)).take (min (64*i+64) b.length)).length):=by
  simp only [dl]
  rw [List.take_append,List.drop_append,List.drop_eq_nil_of_le,List.nil_append]
  simp only [List.length_take]; omega
 rw [hd] at hx
 exact List.eq_of_mem_replicate (List.mem_of_mem_take (List.mem_of_mem_drop hx))
theorem zFx {b:List Int} {k i:Nat} (hk:k≤wM b.length) (hi:i<wM b.length):elt (dl b k).Have (i:Int)=some (decide (i<k)):=by
 rw [elt_nat]
 simp only [dl]
 by_cases h:i<k
 ·rw [List.getElem?_append_left (by simpa using h),List.getElem?_replicate_of_lt h,decide_eq_true h]
 ·rw [List.getElem?_append_right (by simpa using h),List.length_replicate,List.getElem?_replicate_of_lt (by omega),decide_eq_false h]
theorem zMC {b:List Int} {k:Nat} (h1:1≤b.length) (h2:b.length≤8192) (hk:k≤wM b.length):sJ (dl b k)=some true:=by
 unfold sJ
 have hc:wM b.length≤200:=by unfold wM; omega
 have hh:=zNO b hk
 refine yD (a:=false) ?_ ?_
 ·show bnd (vY (b.length:Int) 64) _=_
  rw [zJY h1 h2,bnd_some,Bool.not_true,cond_false]
  show bnd (sK (b.length:Int) 64) _=_
  rw [zLp h2,bnd_some,hh,cI]
  simp only [bne_self_eq_false,cond_false]
  show some ((b.length:Int) != (b.length:Int))=_
  simp
 rw [cond_false,hh]
 refine xS (fun i=>(i:Int)) (wM b.length) (.inr ()) rfl (fun i hi=>?_) ?_ rfl
 ·rw [decide_eq_true (by omega:(i:Int)<(wM b.length:Int)),cond_true,zFx hk hi,bnd_some]
  refine yD (a:=false) ?_ ?_
  ·by_cases h:i<k
   ·rw [decide_eq_true h]; rfl
   ·rw [decide_eq_false h,Bool.not_false,cond_true,zKh (dl b k) rfl rfl (cI b k) h2 hi,bnd_some,zUd (zSu (by omega)) (by rw [List.length_drop,List.length_take,cI]; omega),bnd_some]
  ·rw [cond_false,zQ hi (by omega)]
 ·rw [decide_eq_false (by omega:¬ (wM b.length:Int)<(wM b.length:Int))]
  rfl
theorem zMd {l:List Bool} (h:l.length≤1000000):vA l=some l:=by
 unfold vA
 rw [uQ (by simp; omega) (by simp; omega),bnd_some]
 simp
theorem zNC {b:List Int} {k:Nat} (h:k<wM b.length):(zAO b k).length=min 64 (b.length - 64*k):=by
 unfold zAO wM at*
 simp only [List.length_drop,List.length_take]; omega
theorem zRO {b:List Int} {k:Nat} (hk:k<wM b.length):((dl b k).Have).set k true=(dl b (k+1)).Have:=by
 apply List.ext_getElem?
 intro j
 simp only [dl,List.getElem?_set,List.getElem?_append,List.getElem?_replicate,List.length_append,List.length_replicate]
 by_cases h1:k=j
 ·subst h1
  simp; omega
 ·by_cases h2:j<k
  ·simp [h1,h2,show j<k+1 by omega]
  ·simp only [h1,h2,show ¬ j<k+1 by omega,if_false]
   by_cases h3:j<wM b.length
   ·rw [if_pos (by omega),if_pos (by omega)]
   ·rw [if_neg (by omega),if_neg (by omega)]
theorem zQE {b:List Int} {k:Nat} (hk:k<wM b.length):(dl b k).Data.take (64*k)++(zAO b k).take (min (zAO b k).length (min 64 (b.length - 64*k)))++(dl b k).Data.drop (64*k+min (zAO b k).length (min 64 (b.length - 64*k)))=(dl b (k+1)).Data:=by
 have hl:=zNC hk
 have hc:64*k<b.length:=by unfold wM at hk; omega
 have hA:(b.take (64*k)).length=64*k:=by rw [List.length_take]; omega
 have e1:(dl b k).Data.take (64*k)=b.take (64*k):=by
  simp only [dl]
  rw [List.take_append_of_le_length (by omega),List.take_take,Nat.min_self]
 have e2:(dl b k).Data.drop (64*k+min 64 (b.length - 64*k))=List.replicate (b.length - 64*(k+1)) 0:=by
  simp only [dl]
  rw [List.drop_append,List.drop_eq_nil_of_le (by omega),List.nil_append,hA,List.drop_replicate]
  congr 1
  omega
 have e3:(zAO b k).take (min 64 (b.length - 64*k))=zAO b k:=List.take_of_length_le (by omega)
 rw [hl,Nat.min_self,e1,e2,e3]
 have e4:b.take (64*k)++zAO b k=b.take (64*(k+1)):=by
  unfold zAO
  have h5:=List.take_append_drop (64*k) (b.take (min (64*k+64) b.length))
  rw [List.take_take,show min (64*k) (min (64*k+64) b.length)=64*k by omega] at h5
  rw [h5]
  by_cases h6:64*k+64≤b.length
  ·rw [show min (64*k+64) b.length=64*(k+1) by omega]
  ·rw [show min (64*k+64) b.length=b.length by omega,List.take_length,List.take_of_length_le (by omega)]
 rw [e4]
 rfl
theorem zTA {b:List Int} {k:Nat} (h1:1≤b.length) (h2:b.length≤8192) (hk:k<wM b.length):rR (dl b k) (k:Int) (zAO b k)=some (dl b (k+1),0):=by
 unfold rR
 have hc:wM b.length≤200:=by unfold wM; omega
 have h64:64*k<b.length:=by unfold wM at hk; omega
 have hh:=zNO b (Nat.le_of_lt hk)
 have hsl:=zNC hk
 rw [zMC h1 h2 (by omega),bnd_some,Bool.not_true,cond_false,decide_eq_false (by omega:¬ (k:Int)<0),cond_false,bnd_some,hh,decide_eq_false (by omega:¬ (k:Int)≥(wM b.length:Int)),cond_false]
 rw [zKh (dl b k) rfl rfl (cI b k) h2 hk,bnd_some]
 have hpl:(((dl b k).Data.take (min (64*k+64) b.length)).drop (64*k)).length=(zAO b k).length:=by
  rw [hsl,List.length_drop,List.length_take,cI]; omega
 rw [hpl,show (((zAO b k).length:Int) != ((zAO b k).length:Int))=false by simp,cond_false]
 refine yD (a:=false) ?_ ?_
 ·rw [zFx (by omega) hk,bnd_some,decide_eq_false (by omega)]
  rfl
 rw [cond_false,zMd (by omega),bnd_some,kK (by rw [cI]; omega),bnd_some,zFx (by omega) hk,bnd_some]
 have hs:tH (dl b k).Have (k:Int) true=some ((dl b (k+1)).Have):=by
  rw [sR (by omega),zRO hk]
 rw [hs,bnd_some]
 have hp0:qG (⟨(dl b k).Size,(dl b k).Part,(dl b (k+1)).Have,(dl b k).Data⟩:xF) (k:Int)=some (64*k,min 64 (b.length - 64*k)):=by
  unfold qG
  simp only
  have e1:(dl b k).Part=64:=rfl
  have e2:(dl b k).Size=(b.length:Int):=rfl
  rw [e1,e2,cI,show ((k:Int)*64)=((64*k:Nat):Int) by omega,yX (by omega),show (((64*k:Nat):Int)+64)=((64*k+64:Nat):Int) by omega,yX (by omega)]
  unfold lE
  rw [if_pos ⟨by omega,by omega,by omega⟩,bnd_some]
  congr 2
  omega
 rw [hp0,bnd_some]
 have hcp:iE (dl b k).Data (64*k) (min 64 (b.length - 64*k)) (zAO b k)=some ((dl b (k+1)).Data):=by
  unfold iE
  rw [if_pos (by rw [cI]; omega)]
  have:=zQE hk
  rw [hsl,Nat.min_self] at this ⊢
  rw [this]
 simp only
 rw [hcp,bnd_some]
 rfl
theorem zSG {l:List Bool} {k m:Nat} (h:l=List.replicate k true++List.replicate m false) (hl:k+m≤1000000):vL l false=some (decide (0<m)):=by
 unfold vL rE
 have hlen:l.length=k+m:=by rw [h]; simp
 have hg:∀ i,i<k+m→elt l (i:Int)=some (decide (i<k)):=fun i hi=>by
  rw [elt_nat,h]
  by_cases hk:i<k
  ·rw [List.getElem?_append_left (by simpa using hk),List.getElem?_replicate_of_lt hk,decide_eq_true hk]
  ·rw [List.getElem?_append_right (by simpa using hk),List.length_replicate,List.getElem?_replicate_of_lt (by omega),decide_eq_false hk]
 by_cases hm:0<m
 ·refine yD (a:=(k:Int)) ?_ (by rw [decide_eq_true (by omega:(k:Int)≥0),decide_eq_true hm])
  refine yD (a:=.inl (k:Int)) ?_ rfl
  refine qM (fun i=>(i:Int)) k (fun i hi=>?_) ?_
  ·rw [hlen,decide_eq_true (by omega:(i:Int)<((k+m:Nat):Int)),cond_true,hg i (by omega),bnd_some,decide_eq_true hi,zQ hi (by omega)]
   rfl
  ·rw [hlen,decide_eq_true (by omega:(k:Int)<((k+m:Nat):Int)),cond_true,hg k (by omega),bnd_some,decide_eq_false (by omega)]
   rfl
 ·refine yD (a:= -1) ?_ (by rw [decide_eq_false (by omega:¬ 0<m)]; rfl)
  refine xS (fun i=>(i:Int)) (k+m) (.inr ()) rfl (fun i hi=>?_) ?_ rfl
  ·rw [hlen,decide_eq_true (by omega:(i:Int)<((k+m:Nat):Int)),cond_true,hg i hi,bnd_some,decide_eq_true (by omega),zQ hi (by omega)]
   rfl
  ·rw [hlen,decide_eq_false (by omega:¬ ((k+m:Nat):Int)<((k+m:Nat):Int))]
   rfl
theorem zHm {b:List Int} {k:Nat} (h1:1≤b.length) (h2:b.length≤8192) (hk:k≤wM b.length):wP (dl b k)=some (decide (k=wM b.length)):=by
 unfold wP
 have hc:wM b.length≤200:=by unfold wM; omega
 rw [zMC h1 h2 hk,bnd_some,cond_true,zSG (l:=(dl b k).Have) (k:=k) (m:=wM b.length - k) rfl (by omega),bnd_some,bnd_some]
 congr 1
 by_cases h:k=wM b.length
 ·rw [decide_eq_true h,decide_eq_false (by omega)]; rfl
 ·rw [decide_eq_false h,decide_eq_true (by omega)]; rfl
theorem zUI (b:List Int):(dl b (wM b.length)).Data=b:=by
 simp only [dl]
 have:b.length≤64*wM b.length:=by unfold wM; omega
 rw [List.take_of_length_le this,show b.length - 64*wM b.length=0 by omega]
 simp
theorem zVm {b:List Int} (h1:1≤b.length) (h2:b.length≤8192):sL (dl b (wM b.length))=some (b,0):=by
 unfold sL
 rw [zMC h1 h2 (Nat.le_refl _),bnd_some,Bool.not_true,cond_false,zHm h1 h2 (Nat.le_refl _),bnd_some,decide_eq_true rfl,Bool.not_true,cond_false,kK (by rw [cI]; omega),bnd_some,zUI]
end Go.Proofs.YtplchdlgdjcojaaGreatDoor
end
section
namespace Go.Proofs.YtplchdlgdjcojaaGreatDoor
open Go
set_option linter.unusedSimpArgs false
set_option linter.unusedVariables false
def itN {α:Type} (f:α→α):Nat→α→α
 | 0,x=>x
 | n+1,x=>f (itN f n x)
def kS (x:Int):Prop:=0≤x∧x≤4294967295
theorem cX (x:Int):kS (IntKind.wrap .u32 x):=by
 rw [kM]
 constructor <;> omega
theorem bF (x y:Int):kS (fN .u32 x y):=cX _
def zGu (c:Int):Int:=fN .u32 (uD .u32 c 1) (IntKind.wrap .u32 ((rK .u32 c 1)*3988292384))
def zMr (c x:Int):Int:=itN zGu 8 (fN .u32 c (IntKind.wrap .u32 x))
def zDG (l:List Int):Int:=l.foldl zMr 4294967295
theorem zNc (c:Int):kS (zGu c):=bF _ _
theorem zIm {c:Int} (h:kS c):∀ n,kS (itN zGu n c)
 | 0=>h
 | n+1=>zNc _
theorem zNa (c x:Int):kS (zMr c x):=zIm (bF _ _) 8
theorem zIL (l:List Int):kS (zDG l):=by
 unfold zDG
 have:∀ (l:List Int) (c:Int),kS c→kS (l.foldl zMr c):=by
  intro l
  induction l with
  | nil=>intro c h; exact h
  | cons x r ih=>intro c _; exact ih _ (zNa c x)
 exact this l _ ⟨by omega,by omega⟩
theorem eW {x:Int} (h:kS x):(BitVec.ofInt 32 x).toNat=x.toNat:=by
 rw [BitVec.toNat_ofInt]
 have:=h.1
 have:=h.2
 omega
theorem zLN {x:Int} (h:kS x):fN .u32 x 0=x:=by
 unfold fN
 have e:(BitVec.ofInt (IntKind.bits .u32) x ^^^ BitVec.ofInt (IntKind.bits .u32) 0).toNat=x.toNat:=by
  show (BitVec.ofInt 32 x ^^^ BitVec.ofInt 32 0).toNat=_
  rw [←eW h]
  simp
 rw [e,kM]
 have:=h.1
 have:=h.2
 omega
theorem zNh {x:Int} (h:kS x):rK .u32 x 1=x % 2:=by
 unfold rK
 have e:(BitVec.ofInt (IntKind.bits .u32) x&&&BitVec.ofInt (IntKind.bits .u32) 1).toNat=x.toNat % 2:=by
  show (BitVec.ofInt 32 x&&&BitVec.ofInt 32 1).toNat=_
  rw [BitVec.toNat_and,eW h]
  have:(BitVec.ofInt 32 1).toNat=1:=by decide
  rw [this,Nat.and_one_is_mod]
 rw [e,kM]
 have:=h.1
 have:=h.2
 omega
theorem zMi {x:Int} (h:kS x):uD .u32 x 1=x / 2:=by
 unfold uD
 have:(2:Int) ^ (min (Int.toNat 1) (IntKind.bits .u32))=2:=by decide
 rw [this,Int.fdiv_eq_ediv_of_nonneg _ (by omega)]
theorem zQI {c:Int} (h:kS c):zGu c=bif (c.tmod 2==1) then fN .u32 (IntKind.wrap .u32 (c.tdiv 2)) 3988292384 else IntKind.wrap .u32 (c.tdiv 2):=by
 unfold zGu
 have h0:=h.1
 have h1:=h.2
 have hd:IntKind.wrap .u32 (c.tdiv 2)=c / 2:=by
  rw [Int.tdiv_eq_ediv_of_nonneg h0,zLR (by omega) (by omega)]
 have hm:c.tmod 2=c % 2:=Int.tmod_eq_emod_of_nonneg h0
 rw [zMi h,zNh h,hd,hm]
 rcases Int.emod_two_eq c with h2 | h2
 ·rw [h2]
  have:IntKind.wrap .u32 (0*3988292384)=0:=by rw [kM]; decide
  rw [this,zLN ⟨by omega,by omega⟩]
  rfl
 ·rw [h2]
  have:IntKind.wrap .u32 (1*3988292384)=3988292384:=by rw [kM]; decide
  rw [this]
  rfl
theorem zTH {c:Int} (h:kS c):fN .u32 (if IntKind.signed .u32 then -1 else IntKind.max .u32) c=IntKind.wrap .u32 (4294967295 - c):=by
 have h0:=h.1
 have h1:=h.2
 have em:(if IntKind.signed .u32 then -1 else IntKind.max .u32:Int)=4294967295:=by decide
 rw [em]
 unfold fN
 have e:(BitVec.ofInt (IntKind.bits .u32) 4294967295 ^^^ BitVec.ofInt (IntKind.bits .u32) c).toNat=4294967295 - c.toNat:=by
  show (BitVec.ofInt 32 4294967295 ^^^ BitVec.ofInt 32 c).toNat=_
  have:BitVec.ofInt 32 4294967295=BitVec.allOnes 32:=by decide
  rw [this,←BitVec.not_def,BitVec.toNat_not,eW h]
 rw [e]
 congr 1
 omega
theorem zIn {α σ:Type} {m:σ × Int→Option (rG (σ × Int) σ)} (xs:List α) (f:σ→α→σ) (s0:σ) (hn:xs.length≤140737488355328) (I:σ→Prop) (hI:I s0) (hf:∀ s x,I s→I (f s x))
  (hs:∀ (i:Nat) (s:σ) (h:i<xs.length),I s→m (s,(i:Int))=some (.next (f s xs[i],((i+1:Nat):Int)))) (hd:∀ s,m (s,(xs.length:Int))=some (.done s)):yG m (s0,0)=some (xs.foldl f s0):=by
 have hI2:∀ n,I ((xs.take n).foldl f s0):=by
  intro n
  have:∀ (l:List α) (s:σ),I s→I (l.foldl f s):=by
   intro l
   induction l with
   | nil=>intro s h; exact h
   | cons x r ih=>intro s h; exact ih _ (hf s x h)
  exact this _ _ hI
 have:=qM (m:=m) (fun i=>((xs.take i).foldl f s0,(i:Int))) xs.length (t:=xs.foldl f s0) (fun i hi=>?_) (by simp only [List.take_length]; exact hd _)
 ·simpa using this
 ·rw [hs i _ hi (hI2 i),yY hi,List.foldl_append]
  rfl
theorem zGz (b:List Int) (hb:b.length≤140737488355328):wE b=some (IntKind.wrap .u32 (4294967295 - zDG b)):=by
 unfold wE
 rw [zIn b zMr 4294967295 hb (fun _=>True) trivial (fun _ _ _=>trivial) (fun i s hi _=>?_) (fun s=>by simp)]
 ·simp only [bnd_some]
  exact congrArg some (zTH (zIL b))
 ·have h1:decide ((i:Int)<(b.length:Int))=true:=by simpa using hi
  simp only [h1,cond_true,yR hi,bnd_some]
  have:=qM (m:=fun (s2:Int × Int)=>bif decide (s2.2<8) then (some (.next (fN .u32 (uD .u32 s2.1 1) (IntKind.wrap .u32 ((rK .u32 s2.1 1)*3988292384)),IntKind.wrap .i64 (s2.2+1)))) else (some (.done s2.1))) (fun k=>(itN zGu k (fN .u32 s (IntKind.wrap .u32 b[i])),(k:Int))) 8 (t:=zMr s b[i]) (fun k hk=>by
   have:decide ((k:Int)<8)=true:=by simp; omega
   simp only [this,cond_true]
   rw [zQ (n:=8) hk (by omega)]
   rfl) rfl
  simp only [itN,Int.ofNat_zero] at this
  rw [this]
  simp only [bnd_some]
  rw [zQ hi hb]
theorem zOC (b:List Int) (hb:b.length≤140737488355328):pT b=some (IntKind.wrap .u32 (4294967295 - zDG b)):=by
 unfold pT
 rw [zIn b zMr 4294967295 hb (fun _=>True) trivial (fun _ _ _=>trivial) (fun i s hi _=>?_) (fun s=>by simp)]
 ·rfl
 ·have h1:decide ((i:Int)<(b.length:Int))=true:=by simpa using hi
  simp only [h1,cond_true,yR hi,bnd_some]
  have:=qM (m:=fun (s2:Int × Int)=>bif decide (s2.2<8) then (bif ((s2.1.tmod 2)==1) then (some (.next (fN .u32 (IntKind.wrap .u32 (s2.1.tdiv 2)) 3988292384,IntKind.wrap .i64 (s2.2+1)))) else (some (.next (IntKind.wrap .u32 (s2.1.tdiv 2),IntKind.wrap .i64 (s2.2+1))))) else (some (.done s2.1))) (fun k=>(itN zGu k (fN .u32 s (IntKind.wrap .u32 b[i])),(k:Int))) 8 (t:=zMr s b[i]) (fun k hk=>by
   have h2:decide ((k:Int)<8)=true:=by simp; omega
   simp only [h2,cond_true]
   rw [zQ (n:=8) hk (by omega)]
   have hr:kS (itN zGu k (fN .u32 s (IntKind.wrap .u32 b[i]))):=zIm (bF _ _) k
   show _=some (rG.next (zGu (itN zGu k (fN .u32 s (IntKind.wrap .u32 b[i]))),_))
   rw [zQI hr]
   cases ((itN zGu k (fN .u32 s (IntKind.wrap .u32 b[i]))).tmod 2==1) <;> rfl) rfl
  simp only [itN,Int.ofNat_zero] at this
  rw [this]
  simp only [bnd_some]
  rw [zQ hi hb]
end Go.Proofs.YtplchdlgdjcojaaGreatDoor
end
section
namespace Go.Proofs.YtplchdlgdjcojaaGreatDoor
open Go
set_option linter.unusedSimpArgs false
set_option linter.unusedVariables false
theorem zTV {s:ByteArray} {i:Nat} (h:i<s.size):eltS s (i:Int)=some ((s[i]).toNat:Int):=by
 simp [eltS,h]
def chI (s:ByteArray) (i:Nat):Int:=((s[i]?).map fun b=>(b.toNat:Int)).getD 0
theorem zJG {s:ByteArray} {i:Nat} (h:i<s.size):eltS s (i:Int)=some (chI s i):=by
 rw [zTV h]
 simp [chI,h]
def iJ (y:Int):Bool:=decide (y≥97)&&decide (y≤122)
def zGL (y:Int):Bool:=decide (y≥48)&&decide (y≤57)||(y==45)
def sP (s:ByteArray):Bool:=decide (1≤s.size)&&decide (s.size≤16)&&(iJ (chI s 0)&&(List.range s.size).all fun i=>iJ (chI s i)||zGL (chI s i))
theorem zDb (s:ByteArray):uF s=some (sP s):=by
 unfold uF
 by_cases h1:s.size<1
 ·have:decide ((s.size:Int)<1)=true:=by simp; omega
  have h2:decide (1≤s.size)=false:=decide_eq_false (by omega)
  simp [this,sP,h2]
 by_cases h2:s.size>16
 ·have e1:decide ((s.size:Int)<1)=false:=by simp; omega
  have e2:decide ((s.size:Int)>16)=true:=by simp; omega
  have e3:decide (s.size≤16)=false:=by simp; omega
  simp [e1,e2,sP,e3]
 have e1:decide ((s.size:Int)<1)=false:=by simp; omega
 have e2:decide ((s.size:Int)>16)=false:=by simp; omega
 simp only [e1,e2,cond_false,bnd_some]
 have hl:=zGg (m:=fun (s1:Int)=>bif decide (s1<(s.size:Int)) then (bnd ((bnd (eltS s s1) fun y1=>bif decide (y1≥97) then (some (decide (y1≤122))) else (some false):Option Bool)) fun o4=>bnd ((bnd (eltS s s1) fun y2=>bif decide (y2≥48) then (bif decide (y2≤57) then (some true) else (some (y2==45))) else (some (y2==45)):Option Bool)) fun o5=>bnd ((bif !o4 then (bif (s1==0) then (some true) else (some (!o5))) else (some false):Option Bool)) fun o6=>bif o6 then (some (.done (.inl false))) else (some (.next (IntKind.wrap .i64 (s1+1))))) else (some (.done (.inr ()))))
  (fun i=>(i:Int)) s.size (fun i=>!iJ (chI s i)&&(decide (i=0)||!zGL (chI s i))) (u:=(Sum.inl false:Bool ⊕ Unit)) (t:=.inr ()) (fun i hi=>?_) (by simp)
 ·rw [show ((0:Nat):Int)=0 from rfl] at hl
  rw [hl]
  simp only [bnd_some]
  have hn:sP s=!(List.range s.size).any (fun i=>!iJ (chI s i)&&(decide (i=0)||!zGL (chI s i))):=by
   unfold sP
   have d1:decide (1≤s.size)=true:=by simp; omega
   have d2:decide (s.size≤16)=true:=by simp; omega
   rw [d1,d2,Bool.eq_iff_iff]
   simp only [Bool.true_and,Bool.and_eq_true,List.all_eq_true,List.mem_range,Bool.or_eq_true,Bool.not_eq_true',List.any_eq_false,decide_eq_true_eq,not_and,not_or]
   constructor
   ·rintro ⟨g1,g2⟩ i hi hc
    rcases g2 i hi with g | g
    ·simp [g] at hc
    ·refine ⟨fun h0=>?_,by simp [g]⟩
     subst h0
     simp [g1] at hc
   ·intro g
    have hlet0:iJ (chI s 0)=true:=by
     cases hc:iJ (chI s 0)
     ·exact absurd rfl (g 0 (by omega) (by simp [hc])).1
     ·rfl
    refine ⟨hlet0,fun i hi=>?_⟩
    cases hc:iJ (chI s i)
    ·right
     have:=(g i hi (by simp [hc])).2
     simpa using this
    ·exact .inl rfl
  rw [hn]
  cases (List.range s.size).any (fun i=>!iJ (chI s i)&&(decide (i=0)||!zGL (chI s i))) <;> rfl
 ·have h3:decide ((i:Int)<(s.size:Int))=true:=by simpa using hi
  have h4:((i:Int)==0)=decide (i=0):=by
   rw [Bool.eq_iff_iff]; simp
  simp only [h3,cond_true,zJG hi,bnd_some,h4,zQ hi (by omega:s.size≤140737488355328),iJ,zGL]
  cases decide (chI s i≥97) <;> cases decide (chI s i≤122) <;> cases decide (chI s i≥48) <;> cases decide (chI s i≤57) <;> cases (chI s i==45) <;> cases decide (i=0) <;> rfl
theorem zKW (s:ByteArray):nL s=some (sP s):=by
 unfold nL
 by_cases h1:s.size<1
 ·have:decide ((s.size:Int)<1)=true:=by simp; omega
  have h2:decide (1≤s.size)=false:=decide_eq_false (by omega)
  simp [this,sP,h2]
 by_cases h2:s.size>16
 ·have e1:decide ((s.size:Int)<1)=false:=by simp; omega
  have e2:decide ((s.size:Int)>16)=true:=by simp; omega
  have e3:decide (s.size≤16)=false:=by simp; omega
  simp [e1,e2,sP,e3]
 have e1:decide ((s.size:Int)<1)=false:=by simp; omega
 have e2:decide ((s.size:Int)>16)=false:=by simp; omega
 have hc0:eltS s 0=some (chI s 0):=zJG (i:=0) (by omega)
 have d1:decide (1≤s.size)=true:=by simp; omega
 have d2:decide (s.size≤16)=true:=by simp; omega
 simp only [e1,e2,cond_false,bnd_some,hc0]
 cases hl0:iJ (chI s 0)
 ·have hn:sP s=false:=by simp [sP,hl0]
  rw [hn]
  simp only [iJ,Bool.and_eq_false_iff,decide_eq_false_iff_not] at hl0
  by_cases g:chI s 0<97
  ·simp [g]
  ·have g2:chI s 0>122:=by omega
   simp [g,g2]
 ·have hl1:=hl0
  simp only [iJ,Bool.and_eq_true,decide_eq_true_eq] at hl1
  have g1:decide (chI s 0<97)=false:=by simp; omega
  have g2:decide (chI s 0>122)=false:=by simp; omega
  simp only [g1,g2,cond_false,bnd_some]
  have hl:=zGg (m:=fun (s1:Int)=>bif decide (s1<(s.size:Int)) then (bnd ((bnd (eltS s s1) fun y2=>bif decide (y2≥97) then (bif decide (y2≤122) then (some false) else (bif decide (y2≥48) then (bif decide (y2≤57) then (some false) else (some (!(y2==45)))) else (some (!(y2==45))))) else (bif decide (y2≥48) then (bif decide (y2≤57) then (some false) else (some (!(y2==45)))) else (some (!(y2==45)))):Option Bool)) fun o4=>bif o4 then (some (.done (.inl false))) else (some (.next (IntKind.wrap .i64 (s1+1))))) else (some (.done (.inr ()))))
   (fun i=>(i:Int)) s.size (fun i=>!(iJ (chI s i)||zGL (chI s i))) (u:=(Sum.inl false:Bool ⊕ Unit)) (t:=.inr ()) (fun i hi=>?_) (by simp)
  ·rw [show ((0:Nat):Int)=0 from rfl] at hl
   rw [hl]
   simp only [bnd_some]
   have hn:sP s=!(List.range s.size).any (fun i=>!(iJ (chI s i)||zGL (chI s i))):=by
    unfold sP
    rw [d1,d2,hl0,Bool.eq_iff_iff]
    simp only [Bool.true_and,List.all_eq_true,List.mem_range,Bool.or_eq_true,Bool.not_eq_true',List.any_eq_false,Bool.not_eq_true,Bool.not_eq_false']
    constructor
    ·intro g x hx hf
     rcases g x hx with g | g <;> simp [g] at hf
    ·intro g x hx
     have:=g x hx
     cases a:iJ (chI s x)
     ·cases b:zGL (chI s x)
      ·simp [a,b] at this
      ·exact .inr rfl
     ·exact .inl rfl
   rw [hn]
   cases (List.range s.size).any (fun i=>!(iJ (chI s i)||zGL (chI s i))) <;> rfl
  ·have h3:decide ((i:Int)<(s.size:Int))=true:=by simpa using hi
   simp only [h3,cond_true,zJG hi,bnd_some,zQ hi (by omega:s.size≤140737488355328),iJ,zGL]
   cases decide (chI s i≥97) <;> cases decide (chI s i≤122) <;> cases decide (chI s i≥48) <;> cases decide (chI s i≤57) <;> cases (chI s i==45) <;> rfl
def zLx (n:Int):Bool:=decide (0≤n)&&decide (n≤999)
def jY (v:zK):Bool:=zLx v.Major&&(zLx v.Minor&&zLx v.Patch)
theorem dlt (a b:Int):decide (a<b)=!decide (b≤a):=by
 by_cases h:b≤a
 ·have:¬ a<b:=by omega
  simp [h,this]
 ·have:a<b:=by omega
  simp [h,this]
theorem zKm (v:zK):vN v=some (jY v):=by
 unfold vN vI jY zLx
 simp only [bnd_some,gt_iff_lt,dlt]
 cases decide (0≤v.Major) <;> cases decide (v.Major≤999) <;> cases decide (0≤v.Minor) <;> cases decide (v.Minor≤999) <;> cases decide (0≤v.Patch) <;> cases decide (v.Patch≤999) <;> rfl
theorem zOa (v:zK):pR v=some (jY v):=by
 unfold pR jY zLx
 simp only [ge_iff_le]
 cases decide (0≤v.Major) <;> cases decide (v.Major≤999) <;> cases decide (0≤v.Minor) <;> cases decide (v.Minor≤999) <;> cases decide (0≤v.Patch) <;> cases decide (v.Patch≤999) <;> rfl
def wA (i:zH):Bool:=sP i.Name&&(jY i.Version&&(decide (1≤i.Data.length)&&decide (i.Data.length≤512)))
theorem gT (i:zH):tC i=some (wA i):=by
 unfold tC wA
 have e1:decide ((i.Data.length:Int)≥1)=decide (1≤i.Data.length):=by rw [Bool.eq_iff_iff]; simp; omega
 have e2:decide ((i.Data.length:Int)≤512)=decide (i.Data.length≤512):=by rw [Bool.eq_iff_iff]; simp; omega
 simp only [zDb,zKm,bnd_some,e1,e2]
 cases sP i.Name <;> cases jY i.Version <;> cases decide (1≤i.Data.length) <;> cases decide (i.Data.length≤512) <;> rfl
theorem zDr (i:zH):pS i=some (wA i):=by
 unfold pS wA
 have e1:decide ((i.Data.length:Int)≥1)=decide (1≤i.Data.length):=by rw [Bool.eq_iff_iff]; simp; omega
 have e2:decide ((i.Data.length:Int)≤512)=decide (i.Data.length≤512):=by rw [Bool.eq_iff_iff]; simp; omega
 simp only [zKW,zOa,bnd_some,e1,e2]
 cases sP i.Name <;> cases jY i.Version <;> cases decide (1≤i.Data.length) <;> cases decide (i.Data.length≤512) <;> rfl
theorem rZ {i:zH} (h:wA i=true):sP i.Name=true∧jY i.Version=true∧1≤i.Data.length∧i.Data.length≤512:=by
 simpa [wA] using h
theorem tP {s:ByteArray} (h:sP s=true):1≤s.size∧s.size≤16:=by
 simp only [sP,Bool.and_eq_true,decide_eq_true_eq] at h
 exact h.1
theorem qX (s:ByteArray):(nK s).length=s.size:=by simp [nK,ByteArray.toList_eq]
def two (n:Int):List Int:= [IntKind.wrap .u8 (uD .i64 n 8),IntKind.wrap .u8 n]
def zAR (v:zK):List Int:=two v.Major++(two v.Minor++two v.Patch)
def zEU (i:zH):List Int:=IntKind.wrap .u8 (i.Name.size:Int)::(nK i.Name++(zAR i.Version++(two (i.Data.length:Int)++i.Data)))
theorem nF {xs ys:List Int} (h:xs.length+ys.length≤140737488355328):app 1 xs ys=some (xs++ys):=uQ (by omega) (by omega)
theorem aB {i:zH} (h:i.Name.size≤16∧i.Data.length≤512):(zEU i).length≤600:=by
 simp [zEU,zAR,two,qX]
 omega
theorem zGF {i:zH} (h:i.Name.size≤16∧i.Data.length≤512):qI i=some (zEU i):=by
 have hb:=qX i.Name
 unfold qI rV vW tE
 rw [nF (by simp)]
 simp only [bnd_some,List.nil_append]
 rw [nF (by simp [hb]; omega)]
 simp only [bnd_some]
 rw [nF (by simp [hb]; omega)]
 simp only [bnd_some]
 rw [nF (by simp [hb]; omega)]
 simp only [bnd_some]
 rw [nF (by simp [hb]; omega)]
 simp only [bnd_some]
 rw [nF (by simp [hb]; omega)]
 simp only [bnd_some]
 rw [nF (by simp [hb]; omega)]
 simp [zEU,zAR,two]
theorem zIb {i:zH} (h:i.Name.size≤16∧i.Data.length≤512):pW i=some (zEU i):=by
 have hb:=qX i.Name
 unfold pW pE uO qY
 rw [nF (by simp [hb]; omega)]
 simp only [bnd_some]
 rw [nF (by simp)]
 simp only [bnd_some]
 rw [nF (by simp)]
 simp only [bnd_some]
 rw [nF (by simp [hb]; omega)]
 simp only [bnd_some]
 rw [nF (by simp [hb]; omega)]
 simp only [bnd_some]
 rw [nF (by simp [hb]; omega)]
 simp [zEU,zAR,two]
def mU (i:zH):Int:=bif wA i then IntKind.wrap .u32 (4294967295 - zDG (zEU i)) else 0
theorem aE (i:zH):sD i=some (mU i):=by
 unfold sD mU
 rw [gT]
 cases h:wA i
 ·rfl
 ·obtain ⟨h1,h2,h3,h4⟩:=rZ h
  have hs:i.Name.size≤16∧i.Data.length≤512:=⟨(tP h1).2,h4⟩
  have hl:=aB hs
  simp only [bnd_some,Bool.not_true,cond_false,zGF hs]
  rw [zGz _ (by omega)]
  rfl
theorem zNG (i:zH):iF i=some (mU i):=by
 unfold iF mU
 rw [zDr]
 cases h:wA i
 ·rfl
 ·obtain ⟨h1,h2,h3,h4⟩:=rZ h
  have hs:i.Name.size≤16∧i.Data.length≤512:=⟨(tP h1).2,h4⟩
  have hl:=aB hs
  simp only [bnd_some,Bool.not_true,cond_false,zIb hs]
  rw [zOC _ (by omega)]
  rfl
theorem zBt (i:zH):kS (mU i):=by
 unfold mU
 cases wA i
 ·exact ⟨by show (0:Int)≤0; omega,by show (0:Int)≤4294967295; omega⟩
 ·exact cX _
def zAm (s:yB):Bool:=wA s.Image&&(s.Sum==mU s.Image)
def sH (s:yB) (n:ByteArray):Bool:=zAm s&&decide (s.Image.Name=n)
theorem zGI (s:yB):lY s=some (zAm s):=by
 unfold lY zAm
 simp only [gT,aE,bnd_some]
 cases wA s.Image <;> rfl
theorem zEN (d:zB) (s:yB):oK d s=some (sH s d.Name):=by
 unfold oK sH
 simp only [zGI,bnd_some,eE]
 cases zAm s <;> rfl
end Go.Proofs.YtplchdlgdjcojaaGreatDoor
end
section
namespace Go.Proofs.YtplchdlgdjcojaaGreatDoor
open Go
set_option linter.unusedSimpArgs false
set_option linter.unusedVariables false
def bit (k:Int):Prop:=k=0∨k=1
instance (k:Int):Decidable (bit k):=by unfold bit; infer_instance
def uM (a:rA yB) (k:Int):yB:=if k=0 then a.e0 else a.e1
def mW (a:rA yB) (k:Int) (y:yB):rA yB:=if k=0 then ⟨y,a.e1⟩ else ⟨a.e0,y⟩
def zRk:zH:=⟨⟨#[]⟩,⟨0,0,0⟩, []⟩
def lO:yB:=⟨zRk,0⟩
def aQ:zB:=⟨⟨#[]⟩,⟨lO,lO⟩,0,0,false⟩
theorem zFv (a:rA yB) {k:Int} (h:bit k):elt [a.e0,a.e1] k=some (uM a k):=by
 rcases h with rfl | rfl <;> rfl
theorem zWc (a:rA yB) (y:yB) {k:Int} (h:bit k):rA.set a k y=some (mW a k y):=by
 rcases h with rfl | rfl <;> rfl
theorem zWr {k:Int} (h:bit k):IntKind.wrap .i64 (1 - k)=1 - k:=by
 rcases h with rfl | rfl <;> exact yN (by omega) (by omega)
theorem sU {k:Int} (h:bit k):bit (1 - k):=by rcases h with rfl | rfl <;> simp [bit]
theorem zGr {a:rA yB} {y:yB} {k:Int}:uM (mW a k y) k=y:=by
 unfold uM mW; by_cases h:k=0 <;> simp [h]
theorem zLV {a:rA yB} {y:yB} {k j:Int} (hk:bit k) (hj:bit j) (h:j≠k):uM (mW a k y) j=uM a j:=by
 rcases hk with rfl | rfl <;> rcases hj with rfl | rfl <;> simp_all [uM,mW]
def lV (d:zB):Bool:=
 decide (bit d.Active)&&(decide (bit d.Running)&&(sH (uM d.Slots d.Active) d.Name&&(sH (uM d.Slots d.Running) d.Name&&(!d.Trial||(decide (d.Running=d.Active)&&sH (uM d.Slots (1 - d.Active)) d.Name)))))
theorem zHt (k:Int):k<0∨bit k∨k>1:=by unfold bit; omega
theorem lJ (d:zB):uY d=some (lV d):=by
 unfold uY lV uZ
 simp only [zEN,bnd_some]
 rcases zHt d.Active with h | h | h
 ·have h1:¬ bit d.Active:=by unfold bit; omega
  simp [h,h1]
 ·have g1:decide (d.Active<0)=false:=by rcases h with h | h <;> rw [h] <;> rfl
  have g2:decide (d.Active>1)=false:=by rcases h with h | h <;> rw [h] <;> rfl
  simp only [g1,g2,cond_false,h,decide_true,Bool.true_and,zFv _ h,bnd_some]
  rcases zHt d.Running with k | k | k
  ·have k1:¬ bit d.Running:=by unfold bit; omega
   simp [k,k1]
  ·have k1:decide (d.Running<0)=false:=by rcases k with k | k <;> rw [k] <;> rfl
   have k2:decide (d.Running>1)=false:=by rcases k with k | k <;> rw [k] <;> rfl
   simp only [k1,k2,cond_false,k,decide_true,Bool.true_and,zFv _ k,bnd_some,zWr k,zFv _ (sU k)]
   have e:(d.Running==d.Active)=decide (d.Running=d.Active):=rfl
   rw [e]
   by_cases hra:d.Running=d.Active
   ·simp only [hra,decide_true,cond_true]
    cases sH (uM d.Slots d.Active) d.Name <;> cases sH (uM d.Slots (1 - d.Active)) d.Name <;> cases d.Trial <;> rfl
   ·simp only [hra,decide_false,cond_false]
    cases sH (uM d.Slots d.Active) d.Name <;> cases sH (uM d.Slots d.Running) d.Name <;> cases d.Trial <;> rfl
  ·have k1:¬ bit d.Running:=by unfold bit; omega
   have k2:decide (d.Running<0)=false:=by simp; omega
   simp [k,k1,k2]
 ·have h1:¬ bit d.Active:=by unfold bit; omega
  have h2:decide (d.Active<0)=false:=by simp; omega
  simp [h,h1,h2]
structure VD (d:zB):Prop where
 ba:bit d.Active
 br:bit d.Running
 ga:sH (uM d.Slots d.Active) d.Name=true
 gr:sH (uM d.Slots d.Running) d.Name=true
 tr:d.Trial=true→d.Running=d.Active∧sH (uM d.Slots (1 - d.Active)) d.Name=true
theorem sM (d:zB):lV d=true↔VD d:=by
 unfold lV
 simp only [Bool.and_eq_true,decide_eq_true_eq,Bool.or_eq_true,Bool.not_eq_true']
 constructor
 ·rintro ⟨h1,h2,h3,h4,h5⟩
  exact ⟨h1,h2,h3,h4,fun ht=>by rcases h5 with h5 | h5 <;> simp_all⟩
 ·rintro ⟨h1,h2,h3,h4,h5⟩
  refine ⟨h1,h2,h3,h4,?_⟩
  cases ht:d.Trial
  ·exact .inl rfl
  ·exact .inr (h5 ht)
def wrE (d:zB):Int:=bif lV d then (bif (d.Running != d.Active) then 46 else bif d.Trial then 46 else 0) else 1
theorem zEF (d:zB):tT d=some (wrE d):=by
 unfold tT wrE
 simp only [lJ,bnd_some]
 cases lV d <;> cases (d.Running != d.Active) <;> cases d.Trial <;> rfl
theorem zEv {d:zB} (h:wrE d=0):VD d∧d.Running=d.Active∧d.Trial=false:=by
 unfold wrE at h
 cases hv:lV d
 ·simp [hv] at h
 ·simp only [hv,cond_true] at h
  cases hr:(d.Running != d.Active)
  ·simp only [hr,cond_false] at h
   cases ht:d.Trial
   ·exact ⟨(sM d).1 hv,by simpa using hr,rfl⟩
   ·simp [ht] at h
  ·simp [hr] at h
theorem zNH {d:zB} (h:VD d) (hr:d.Running=d.Active) (ht:d.Trial=false):wrE d=0:=by
 unfold wrE
 rw [(sM d).2 h,hr,ht]
 simp
def small (i:zH):Prop:=i.Data.length≤1000
def pY (d:zB):Prop:=small d.Slots.e0.Image∧small d.Slots.e1.Image
theorem zMh {d:zB} (h:pY d) {k:Int} {y:yB} (hy:small y.Image):small (mW d.Slots k y).e0.Image∧small (mW d.Slots k y).e1.Image:=by
 unfold mW
 split
 ·exact ⟨hy,h.2⟩
 ·exact ⟨h.1,hy⟩
theorem cE {i:zH} (h:small i):pJ i=some i:=by
 unfold pJ zP
 unfold small at h
 rw [nF (by simp; omega)]
 rfl
theorem zPl {i:zH} (h:small i):jS i=some i:=by
 unfold jS
 unfold small at h
 rw [nF (by simp; omega)]
 rfl
theorem lC {d:zB} (h:pY d):uX d=some d:=by
 unfold uX
 rw [cE h.1]
 simp only [bnd_some]
 rw [cE h.2]
 rfl
def zJg (d:zB):zB × Int:=bif (wrE d != 0) then (aQ,wrE d) else (⟨d.Name,mW d.Slots (1 - d.Running) lO,d.Active,d.Running,d.Trial⟩,0)
def cF (d:zB) (i:zH) (n:Int):Bool:=wA i&&(decide (i.Name=d.Name)&&(decide (0≤n)&&decide (n≤(i.Data.length:Int))))
def zJw (d:zB) (i:zH) (n:Int):zB × Int:=
 bif (wrE d != 0) then (aQ,wrE d) else bif cF d i n then (⟨d.Name,mW d.Slots (1 - d.Running) ⟨⟨i.Name,i.Version,i.Data.take n.toNat⟩,0⟩,d.Active,d.Running,d.Trial⟩,0) else (aQ,2)
def zEC (d:zB) (s:Int):zB × Int:=
 bif (wrE d != 0) then (aQ,wrE d) else bif sH ⟨(uM d.Slots (1 - d.Running)).Image,s⟩ d.Name then (⟨d.Name,mW d.Slots (1 - d.Running) ⟨(uM d.Slots (1 - d.Running)).Image,s⟩,d.Active,d.Running,d.Trial⟩,0) else (aQ,5)
def zAA (d:zB):zB × Int:=
 bif (wrE d != 0) then (aQ,wrE d) else bif sH (uM d.Slots (1 - d.Running)) d.Name then (⟨d.Name,d.Slots,d.Active,d.Running,true⟩,0) else (aQ,46)
def zAf (d:zB):zB:=bif lV d then (bif d.Trial then ⟨d.Name,d.Slots,d.Active,1 - d.Active,false⟩ else ⟨d.Name,d.Slots,d.Active,d.Active,d.Trial⟩) else aQ
def zCL (d:zB):zB × Int:=bif lV d then (bif d.Trial then (aQ,46) else (⟨d.Name,d.Slots,d.Running,d.Running,d.Trial⟩,0)) else (aQ,1)
def pL (d:zB):zK:=bif lV d then (uM d.Slots d.Running).Image.Version else ⟨0,0,0⟩
def zCO (i:zH):zB × Int:=bif wA i then (⟨i.Name,⟨⟨i,mU i⟩,lO⟩,0,0,false⟩,0) else (aQ,1)
theorem zLF {i:zH} (h:small i):mY i=some (zCO i):=by
 unfold mY zCO
 simp only [gT,cE h,aE,bnd_some]
 cases wA i <;> rfl
theorem zTw {i:zH} (h:small i):fT i=some (zCO i):=by
 unfold fT zCO
 simp only [zDr,zPl h,zNG,bnd_some]
 cases wA i <;> rfl
theorem fM {d:zB} (h:bit d.Running):uZ d=some (1 - d.Running):=by
 unfold uZ
 rw [zWr h,zFv _ (sU h)]
 rfl
theorem zNt {d:zB} (h:pY d):gE d=some (zJg d):=by
 unfold gE zJg
 simp only [zEF,lC h,bnd_some]
 by_cases hw:wrE d=0
 ·obtain ⟨hv,hr,ht⟩:=zEv hw
  have e:(wrE d != 0)=false:=by simp [hw]
  simp only [e,cond_false,fM hv.br,bnd_some,zFv _ (sU hv.br),zWc _ _ (sU hv.br)]
  rfl
 ·have e:(wrE d != 0)=true:=by simp [hw]
  simp only [e,cond_true]
  rfl
theorem zRT {α:Type} {l:List α} {n:Int} (h0:0≤n) (h1:n≤(l.length:Int)):sub l 0 n=some (l.take n.toNat):=by
 simp [sub,h0,h1]
theorem zMc {d:zB} {i:zH} (h:pY d) (hi:small i) (n:Int):gJ d i n=some (zJw d i n):=by
 unfold gJ zJw
 simp only [zEF,gT,eE,bnd_some]
 by_cases hw:wrE d=0
 ·obtain ⟨hv,hr,ht⟩:=zEv hw
  have e:(wrE d != 0)=false:=by simp [hw]
  simp only [e,cond_false,gt_iff_lt,dlt]
  have eo:(bif !wA i then some true else bif !decide (i.Name=d.Name) then some true else bif !decide (0≤n) then some true else some (!decide (n≤(i.Data.length:Int))):Option Bool)=some (!cF d i n):=by
   unfold cF
   cases wA i <;> cases decide (i.Name=d.Name) <;> cases decide (0≤n) <;> cases decide (n≤(i.Data.length:Int)) <;> rfl
  rw [eo]
  simp only [bnd_some]
  cases ho:cF d i n
  ·rfl
  ·simp only [cF,Bool.and_eq_true,decide_eq_true_eq] at ho
   have hs:small (⟨i.Name,i.Version,i.Data.take n.toNat⟩:zH):=by
    unfold small at*
    simp
    omega
   simp only [Bool.not_true,cond_false,cond_true,lC h,bnd_some,zRT ho.2.2.1 ho.2.2.2,fM hv.br,cE hs,zFv _ (sU hv.br),zWc _ _ (sU hv.br)]
 ·have e:(wrE d != 0)=true:=by simp [hw]
  simp only [e,cond_true]
  rfl
theorem zKl {d:zB} (h:pY d) (s:Int):jO d s=some (zEC d s):=by
 unfold jO zEC
 simp only [zEF,lC h,bnd_some]
 by_cases hw:wrE d=0
 ·obtain ⟨hv,hr,ht⟩:=zEv hw
  have e:(wrE d != 0)=false:=by simp [hw]
  simp only [e,cond_false,fM hv.br,bnd_some,zFv _ (sU hv.br),zWc _ _ (sU hv.br),zEN]
  rw [fM (d:=⟨d.Name,mW d.Slots (1 - d.Running) ⟨(uM d.Slots (1 - d.Running)).Image,s⟩,d.Active,d.Running,d.Trial⟩) hv.br]
  simp only [bnd_some,zFv _ (sU hv.br),zGr]
  cases sH ⟨(uM d.Slots (1 - d.Running)).Image,s⟩ d.Name <;> rfl
 ·have e:(wrE d != 0)=true:=by simp [hw]
  simp only [e,cond_true]
  rfl
theorem fW {d:zB} (h:pY d):pU d=some (zAA d):=by
 unfold pU zAA
 simp only [zEF,lC h,bnd_some]
 by_cases hw:wrE d=0
 ·obtain ⟨hv,hr,ht⟩:=zEv hw
  have e:(wrE d != 0)=false:=by simp [hw]
  simp only [e,cond_false,fM hv.br,bnd_some,zFv _ (sU hv.br),zEN]
  cases sH (uM d.Slots (1 - d.Running)) d.Name <;> rfl
 ·have e:(wrE d != 0)=true:=by simp [hw]
  simp only [e,cond_true]
  rfl
theorem gM {d:zB} (h:pY d):oO d=some (zAf d):=by
 unfold oO zAf
 simp only [lJ,lC h,bnd_some]
 cases hv:lV d
 ·rfl
 ·have:=((sM d).1 hv).ba
  simp only [zWr this,Bool.not_true,cond_false,cond_true]
  cases d.Trial <;> rfl
theorem zCF {d:zB} (h:pY d):oM d=some (zCL d):=by
 unfold oM zCL
 simp only [lJ,lC h,bnd_some]
 cases lV d <;> cases d.Trial <;> rfl
theorem zBY (d:zB):oU d=some (pL d):=by
 unfold oU pL
 simp only [lJ,bnd_some]
 cases hv:lV d
 ·rfl
 ·simp only [Bool.not_true,cond_false,cond_true,zFv _ ((sM d).1 hv).br,bnd_some]
end Go.Proofs.YtplchdlgdjcojaaGreatDoor
end
section
namespace Go.Proofs.YtplchdlgdjcojaaGreatDoor
open Go
set_option linter.unusedSimpArgs false
set_option linter.unusedVariables false
theorem zLY {x:Int}:inK .u8 x↔0≤x∧x≤255:=Iff.rfl
structure vK (c:xY):Prop where
 hl:∀ x∈c.L,inK .u8 x
 h0:0≤c.At
 hn:c.L.length≤140737488355328
 ha:c.At≤(c.L.length:Int)
theorem zPn {a b:Int} (ha:0≤a∧a<65536) (hb:0≤b∧b<65536):0≤iOr .i64 a b∧iOr .i64 a b<65536:=by
 unfold iOr
 have e:(BitVec.ofInt (IntKind.bits .i64) a|||BitVec.ofInt (IntKind.bits .i64) b).toNat=a.toNat|||b.toNat:=by
  show (BitVec.ofInt 64 a|||BitVec.ofInt 64 b).toNat=_
  rw [BitVec.toNat_or,BitVec.toNat_ofInt,BitVec.toNat_ofInt]
  congr 1 <;> omega
 rw [e]
 have h:=Nat.or_lt_two_pow (x:=a.toNat) (y:=b.toNat) (n:=16) (by omega) (by omega)
 rw [yN (by omega) (by omega)]
 omega
theorem zXh {x:Int} (h:0≤x∧x≤255):kY .i64 x 8=x*256:=by
 unfold kY
 have:(2:Int) ^ (min (Int.toNat 8) (IntKind.bits .i64))=256:=by decide
 rw [this,yN (by omega) (by omega)]
theorem zOo {v n:Int} (hv:0≤v) (hn:1≤n):∃ x,zKO v n=some x∧0≤x∧x<n:=by
 refine ⟨v % n,?_,Int.emod_nonneg _ (by omega),Int.emod_lt_of_pos _ (by omega)⟩
 unfold zKO
 rw [if_neg (by omega),Int.tmod_eq_emod_of_nonneg hv]
theorem zTY {c:xY} (h:vK c) (n:Int):∃ c' x,zY c n=some (c',x)∧vK c'∧0≤x∧(x=0∨x<n):=by
 unfold zY vP
 simp only [bnd_some]
 obtain ⟨hl,h0,hn,ha⟩:=h
 by_cases hlt:c.At<(c.L.length:Int)
 ·have d1:decide (c.At<(c.L.length:Int))=true:=by simpa using hlt
  simp only [d1,Bool.not_true,cond_false,bnd_some]
  by_cases hn1:n<1
  ·simp only [hn1,decide_true,cond_true]
   exact ⟨c,0,rfl,⟨hl,h0,hn,ha⟩,by omega, .inl rfl⟩
  simp only [hn1,decide_false,cond_false]
  obtain ⟨k,hk⟩:∃ k:Nat,c.At=(k:Int):=⟨c.At.toNat,by omega⟩
  have hkl:k<c.L.length:=by omega
  have hx:=zLY.1 (hl _ (List.getElem_mem hkl))
  rw [hk,yR hkl]
  simp only [bnd_some]
  have hw:IntKind.wrap .i64 ((k:Int)+1)=((k+1:Nat):Int):=zQ hkl hn
  have hx':IntKind.wrap .i64 c.L[k]=c.L[k]:=yN (by omega) (by omega)
  rw [hw,hx']
  have hok1:vK (⟨c.L,((k+1:Nat):Int)⟩:xY):=⟨hl,by show (0:Int)≤((k+1:Nat):Int); omega,hn,by show ((k+1:Nat):Int)≤(c.L.length:Int); omega⟩
  by_cases hbig:n>256∧k+1<c.L.length
  ·have d2:decide (n>256)=true:=by simpa using hbig.1
   have d3:decide (((k+1:Nat):Int)<(c.L.length:Int))=true:=by simp; omega
   have hy:=zLY.1 (hl _ (List.getElem_mem hbig.2))
   have hy':IntKind.wrap .i64 c.L[k+1]=c.L[k+1]:=yN (by omega) (by omega)
   simp only [d2,d3,cond_true,bnd_some,yR hbig.2,hy',zXh hy]
   have ho:=zPn (a:=c.L[k]) (b:=c.L[k+1]*256) (by omega) (by omega)
   obtain ⟨x,e1,e2,e3⟩:=zOo (n:=n) ho.1 (by omega)
   rw [e1]
   have hw2:IntKind.wrap .i64 (((k+1:Nat):Int)+1)=((k+2:Nat):Int):=zQ hbig.2 hn
   exact ⟨_,x,rfl,⟨hl,by show 0≤IntKind.wrap .i64 _; rw [hw2]; omega,hn,by show IntKind.wrap .i64 _≤(c.L.length:Int); rw [hw2]; omega⟩,e2, .inr e3⟩
  ·have d2:(bif decide (n>256) then some (decide (((k+1:Nat):Int)<(c.L.length:Int))) else some false:Option Bool)=some false:=by
    by_cases g:n>256
    ·have:¬ k+1<c.L.length:=fun h=>hbig ⟨g,h⟩
     have d3:decide (((k+1:Nat):Int)<(c.L.length:Int))=false:=by simp; omega
     rw [d3]
     simp [g]
    ·simp [g]
   rw [d2]
   simp only [bnd_some,cond_false]
   obtain ⟨x,e1,e2,e3⟩:=zOo (n:=n) hx.1 (by omega)
   rw [e1]
   exact ⟨_,x,rfl,hok1,e2, .inr e3⟩
 ·have d1:decide (c.At<(c.L.length:Int))=false:=by simpa using hlt
  simp only [d1,Bool.not_false,cond_true,bnd_some]
  exact ⟨c,0,rfl,⟨hl,h0,hn,ha⟩,by omega, .inl rfl⟩
theorem zPe {l:List Int} (h:okL (inK .u8) l) {most:Int} (h0:0≤most) (h1:most≤100000):∃ c,fU l most=some c∧vK c:=by
 unfold fU
 have hs:sub l 0 (min (l.length:Int) most)=some (l.take (min (l.length:Int) most).toNat):=by
  unfold sub
  rw [if_pos ⟨by omega,by omega,by omega⟩]
  simp
 rw [hs]
 refine ⟨_,rfl,fun x hx=>h.1 x (List.mem_of_mem_take hx),by simp,?_,by simp⟩
 simp only [List.length_take]
 omega
end Go.Proofs.YtplchdlgdjcojaaGreatDoor
end
section
namespace Go.Proofs.YtplchdlgdjcojaaGreatDoor
open Go
set_option linter.unusedSimpArgs false
set_option linter.unusedVariables false
structure Inv (d:zB) (n:ByteArray):Prop where
 vd:VD d
 nm:d.Name=n
 sm:pY d
theorem zIS {d:zB} {n:ByteArray} (h:Inv d n) (hr:d.Running=d.Active) (ht:d.Trial=false) {y:yB} (hy:small y.Image):
  Inv ⟨d.Name,mW d.Slots (1 - d.Running) y,d.Active,d.Running,d.Trial⟩ n:=by
 obtain ⟨⟨ba,br,ga,gr,tr⟩,nm,sm⟩:=h
 have hne:d.Running≠1 - d.Running:=by rcases br with h | h <;> rw [h] <;> decide
 have e:uM (mW d.Slots (1 - d.Running) y) d.Running=uM d.Slots d.Running:=zLV (sU br) br hne
 refine ⟨⟨ba,br,?_,?_,fun h=>?_⟩,nm,zMh sm hy⟩
 ·simp only; rw [←hr,e]; exact gr
 ·simp only; rw [e]; exact gr
 ·rw [ht] at h; cases h
theorem zFg:small zRk:=by unfold small zRk; simp
theorem zUy {i:zH} (h:wA i=true):Inv (zCO i).1 i.Name∧(zCO i).2=0∧(zCO i).1=⟨i.Name,⟨⟨i,mU i⟩,lO⟩,0,0,false⟩:=by
 unfold zCO
 rw [h]
 have hs:=rZ h
 have hg:sH ⟨i,mU i⟩ i.Name=true:=by simp [sH,zAm,h]
 refine ⟨⟨⟨.inl rfl, .inl rfl,hg,hg,fun h=>by cases h⟩,rfl,?_,zFg⟩,rfl,rfl⟩
 show i.Data.length≤1000
 omega
theorem zTh {v:zK} (h1:0≤v.Major) (h2:v.Major≤999) (h3:0≤v.Minor) (h4:v.Minor≤999) (h5:0≤v.Patch) (h6:v.Patch≤999):jY v=true:=by
 simp [jY,zLx, *]
theorem zQB {i:zH} (h1:sP i.Name=true) (h2:jY i.Version=true) (h3:1≤i.Data.length) (h4:i.Data.length≤512):wA i=true:=by
 simp [wA, *]
end Go.Proofs.YtplchdlgdjcojaaGreatDoor
end
section
namespace Go.Proofs.YtplchdlgdjcojaaGreatDoor
open Go
set_option linter.unusedSimpArgs false
set_option linter.unusedVariables false
theorem zCP:∀ (x y:List UInt8),(Op.bytesLess x y||(x==y))=!Op.bytesLess y x
 | [], []=>rfl
 | [],_::_=>rfl
 | _::_, []=>rfl
 | a::x,b::y=>by
  have ih:=zCP x y
  simp only [Op.bytesLess,List.cons_beq_cons]
  by_cases h:a=b
  ·subst h
   have:¬ a<a:=UInt8.lt_irrefl a
   simp [this]
   simpa using ih
  ·have h1:(a==b)=false:=by simpa using h
   have h2:(b==a)=false:=by simpa using fun e=>h e.symm
   rw [h1,h2]
   simp only [Bool.false_and,Bool.or_false]
   by_cases hl:a<b
   ·have:¬ b<a:=UInt8.lt_asymm hl
    simp [hl,this]
   ·have:b<a:=by
     rcases UInt8.lt_or_lt_of_ne h with g | g
     ·exact absurd g hl
     ·exact g
    simp [hl,this]
def zPT (x:Nat):Bool:=decide (97≤x)&&decide (x≤122)
def zHA (x:Nat):Bool:=(decide (48≤x)&&decide (x≤57))||x==45
def lX (s:ByteArray):Bool:=decide (1≤(bs s).length)&&decide ((bs s).length≤16)&&(List.range (bs s).length).all fun i=>match (bs s)[i]? with | some x=>zPT x||(i != 0&&zHA x) | none=>true
def zBR (v:zK):Bool:=decide (0≤v.Major)&&decide (v.Major≤999)&&(decide (0≤v.Minor)&&decide (v.Minor≤999))&&(decide (0≤v.Patch)&&decide (v.Patch≤999))
theorem aX {α:Type} (l:List α) (p:α→Bool):(l.any fun x=>!p x)=!l.all p:=by
 induction l with
 | nil=>rfl
 | cons x r ih=>simp [ih,Bool.not_and]
theorem zJf (s:ByteArray):uF s=some (lX s):=by
 unfold uF
 have hl:(bs s).length=s.size:=bs_len s
 by_cases h:(s.size<1)∨(16<s.size)
 ·have e1:(bif decide ((s.size:Int)<1) then some true else some (decide ((s.size:Int)>16)):Option Bool)=some true:=by
   by_cases h1:s.size<1
   ·have:decide ((s.size:Int)<1)=true:=by simp; omega
    rw [this]; rfl
   ·have:decide ((s.size:Int)<1)=false:=by simp; omega
    rw [this]; simp; omega
  rw [e1]
  have:lX s=false:=by
   unfold lX
   rw [hl]
   rcases h with h | h
   ·have:decide (1≤s.size)=false:=decide_eq_false (by omega)
    rw [this]; rfl
   ·have:decide (s.size≤16)=false:=decide_eq_false (by omega)
    rw [this]; simp
  rw [this]
  rfl
 ·have h1:decide ((s.size:Int)<1)=false:=by simp; omega
  have h2:decide ((s.size:Int)>16)=false:=by simp; omega
  simp only [h1,h2,cond_false,bnd_some]
  refine nA (fun (i:Nat)=>(i:Int)) s.size (fun i=>match (bs s)[i]? with | some x=>!(zPT x||(i != 0&&zHA x)) | none=>false) (.inl false) (.inr ()) rfl (fun i hi=>?_) ?_ ?_
  ·have hib:i<(bs s).length:=by omega
   have d0:decide ((i:Int)<(s.size:Int))=true:=by simp; omega
   simp only [d0,cond_true,zTT hi,bnd_some,zQ hi (by omega)]
   rw [List.getElem?_eq_getElem hib]
   generalize (bs s)[i]=x
   have a1:decide ((x:Int)≥97)=decide (97≤x):=by congr 1; simp; omega
   have a2:decide ((x:Int)≤122)=decide (x≤122):=by congr 1; simp; omega
   have a3:decide ((x:Int)≥48)=decide (48≤x):=by congr 1; simp; omega
   have a4:decide ((x:Int)≤57)=decide (x≤57):=by congr 1; simp; omega
   have a5:((x:Int)==45)=(x==45):=by
    rw [Bool.eq_iff_iff,beq_iff_eq,beq_iff_eq]
    omega
   have a6:((i:Int)==0)=(i==0):=by rw [Bool.eq_iff_iff]; simp
   rw [a1,a2,a3,a4,a5,a6]
   simp only [zPT,zHA,bne]
   cases decide (97≤x) <;> cases decide (x≤122) <;> cases decide (48≤x) <;> cases decide (x≤57) <;> cases x==45 <;> cases i==0 <;> rfl
  ·have d0:decide ((s.size:Int)<(s.size:Int))=false:=by simp
   simp only [d0,cond_false]
  ·have e2:(List.range s.size).any (fun i=>match (bs s)[i]? with | some x=>!(zPT x||(i != 0&&zHA x)) | none=>false)=!((List.range (bs s).length).all fun i=>match (bs s)[i]? with | some x=>zPT x||(i != 0&&zHA x) | none=>true):=by
    rw [←aX,hl]
    congr 1
    funext i
    cases (bs s)[i]? <;> rfl
   rw [e2]
   unfold lX
   have b1:decide (1≤(bs s).length)=true:=by rw [hl]; simp; omega
   have b2:decide ((bs s).length≤16)=true:=by rw [hl]; simp; omega
   rw [b1,b2]
   cases (List.range (bs s).length).all fun i=>match (bs s)[i]? with | some x=>zPT x||(i != 0&&zHA x) | none=>true <;> rfl
theorem zQl (v:zK):vN v=some (zBR v):=by
 unfold vN vI zBR
 simp only [bnd_some]
 have h1:∀ x:Int,decide (x<0)=!decide (0≤x):=fun x=>by rw [←decide_not]; congr 1; simp
 have h2:∀ x:Int,decide (x>999)=!decide (x≤999):=fun x=>by rw [←decide_not]; congr 1; simp
 simp only [h1,h2]
 cases decide (0≤v.Major) <;> cases decide (v.Major≤999) <;> cases decide (0≤v.Minor) <;> cases decide (v.Minor≤999) <;> cases decide (0≤v.Patch) <;> cases decide (v.Patch≤999) <;> rfl
def blt (a b:ByteArray):Bool:=Op.bytesLess a.data.toList b.data.toList
theorem zQQ (a b:ByteArray):Op.bytesLess a.toList b.toList=blt a b:=by rw [ByteArray.toList_eq,ByteArray.toList_eq]; rfl
def cOk (l:List zL) (i:Nat):Bool:=match l[i]? with
 | some x=>lX x.Name&&zBR x.Version&&(i==0||match l[i - 1]? with | some y=>blt y.Name x.Name | none=>true)
 | none=>true
def tI (l:List zL):Bool:=decide (l.length≤8)&&(List.range l.length).all (cOk l)
theorem zSX (l:List zL):vT l=some (tI l):=by
 unfold vT tI
 by_cases h:8<l.length
 ·have d1:decide ((l.length:Int)>8)=true:=by simp; omega
  have d2:decide (l.length≤8)=false:=by simp; omega
  rw [d1,d2]; rfl
 ·have d1:decide ((l.length:Int)>8)=false:=by simp; omega
  have d2:decide (l.length≤8)=true:=by simp; omega
  rw [d1,d2]
  simp only [cond_false,Bool.true_and]
  refine nA (fun (i:Nat)=>(i:Int)) l.length (fun i=>!cOk l i) (.inl false) (.inr ()) rfl (fun i hi=>?_) ?_ ?_
  ·have d0:decide ((i:Int)<(l.length:Int))=true:=by simp; omega
   simp only [d0,cond_true,yR hi,bnd_some,zJf,zQl,zQ hi (by omega),cOk,List.getElem?_eq_getElem hi]
   by_cases h0:i=0
   ·subst h0
    have e:decide (((0:Nat):Int)>0)=false:=by simp
    rw [e]
    cases lX l[0].Name <;> cases zBR l[0].Version <;> rfl
   ·have e:decide ((i:Int)>0)=true:=by simp; omega
    have e2:(i==0)=false:=by simp [h0]
    have hp:i - 1<l.length:=by omega
    rw [e,e2,zAG (n:=l.length) (by omega) hi (by omega),yR hp,List.getElem?_eq_getElem hp]
    simp only [bnd_some,zCP,Bool.false_or,cond_true]
    simp only [zQQ]
    cases lX l[i].Name <;> cases zBR l[i].Version <;> cases blt l[i - 1].Name l[i].Name <;> rfl
  ·have d0:decide ((l.length:Int)<(l.length:Int))=false:=by simp
   simp only [d0,cond_false]
  ·rw [aX]
   cases (List.range l.length).all (cOk l) <;> rfl
def nOk (x:zT):Bool:=lX x.Component&&lX x.On&&!decide (bs x.Component=bs x.On)&&zBR x.From&&zBR x.At
def jT (l:List zT):Bool:=decide (l.length≤16)&&l.all nOk
theorem zRt (l:List zT):rJ l=some (jT l):=by
 unfold rJ jT
 by_cases h:16<l.length
 ·have d1:decide ((l.length:Int)>16)=true:=by simp; omega
  have d2:decide (l.length≤16)=false:=by simp; omega
  rw [d1,d2]; rfl
 ·have d1:decide ((l.length:Int)>16)=false:=by simp; omega
  have d2:decide (l.length≤16)=true:=by simp; omega
  rw [d1,d2]
  simp only [cond_false,Bool.true_and]
  refine nA (fun (i:Nat)=>(i:Int)) l.length (fun i=>match l[i]? with | some x=>!nOk x | none=>false) (.inl false) (.inr ()) rfl (fun i hi=>?_) ?_ ?_
  ·have d0:decide ((i:Int)<(l.length:Int))=true:=by simp; omega
   simp only [d0,cond_true,yR hi,bnd_some,zJf,zQl,zQ hi (by omega),List.getElem?_eq_getElem hi,zCx,nOk]
   generalize l[i]=x
   cases lX x.Component <;> cases lX x.On <;> cases decide (bs x.Component=bs x.On) <;> cases zBR x.From <;> cases zBR x.At <;> rfl
  ·have d0:decide ((l.length:Int)<(l.length:Int))=false:=by simp
   simp only [d0,cond_false]
  ·rw [zHz l (fun x=>!nOk x) _ (fun i hi=>by rw [List.getElem?_eq_getElem hi]),aX]
   cases l.all nOk <;> rfl
def gL (l:List zL) (name:ByteArray):Option zK:=(l.find? fun x=>decide (bs x.Name=bs name)).map (·.Version)
def vlt (a b:zK):Bool:=decide (a.Major<b.Major)||(decide (a.Major=b.Major)&&(decide (a.Minor<b.Minor)||(decide (a.Minor=b.Minor)&&decide (a.Patch<b.Patch))))
def jA (l:List zL) (n:zT):Bool:=match gL l n.Component with
 | none=>true
 | some v=>vlt v n.From||match gL l n.On with | none=>false | some u=>!vlt u n.At
theorem zFq {l:List zL} (hl:l.length≤1000) (name:ByteArray):qJ l name=some (match gL l name with | some v=>(v,true) | none=>(⟨0,0,0⟩,false)):=by
 unfold qJ
 refine rY (fun (i:Nat)=>(i:Int)) l.length (fun i=>match l[i]? with | some x=>if decide (bs x.Name=bs name)=true then some (.inl (x.Version,true)) else none | none=>none) (.inr ()) rfl (fun i hi=>?_) ?_ ?_
 ·have d0:decide ((i:Int)<(l.length:Int))=true:=by simp; omega
  simp only [d0,cond_true,yR hi,bnd_some,zQ hi (by omega),List.getElem?_eq_getElem hi,zCx]
  cases decide (bs l[i].Name=bs name) <;> rfl
 ·have d0:decide ((l.length:Int)<(l.length:Int))=false:=by simp
  simp only [d0,cond_false]
 ·rcases bG l (fun x=>decide (bs x.Name=bs name)) (fun _ x=>(.inl (x.Version,true):(zK × Bool) ⊕ Unit)) (fun i=>match l[i]? with | some x=>if decide (bs x.Name=bs name)=true then some (.inl (x.Version,true)) else none | none=>none) (fun i hi=>by rw [List.getElem?_eq_getElem hi]) with ⟨i,hi,h1,h2,h3⟩ | ⟨h1,h2,h3⟩
  ·rw [h3]
   simp only [gL,h2]
   rfl
  ·rw [h3]
   simp only [gL,h1]
   rfl
theorem zWC (x y:Int):tK x y=some (if x<y then -1 else if y<x then 1 else 0):=by
 unfold tK pK
 simp only [bnd_some,bne_self_eq_false,cond_false]
 by_cases h1:x<y
 ·simp [h1]
 ·by_cases h2:y<x
  ·simp [h1,h2]
  ·simp [h1,h2]
theorem zGn (a b:zK):∃ r,rU a b=some r∧decide (r<0)=vlt a b:=by
 unfold rU vI pX vlt
 simp only [bnd_some,zWC]
 by_cases h1:a.Major<b.Major
 ·exact ⟨-1,by simp [h1],by simp [h1]⟩
 ·by_cases h2:b.Major<a.Major
  ·have:¬ a.Major=b.Major:=by omega
   exact ⟨1,by simp [h1,h2],by simp [h1,this]⟩
  ·have e:a.Major=b.Major:=by omega
   by_cases h3:a.Minor<b.Minor
   ·exact ⟨-1,by simp [h1,h2,h3],by simp [e,h3]⟩
   ·by_cases h4:b.Minor<a.Minor
    ·have:¬ a.Minor=b.Minor:=by omega
     exact ⟨1,by simp [h1,h2,h3,h4],by simp [e,h3,this]⟩
    ·have e2:a.Minor=b.Minor:=by omega
     by_cases h5:a.Patch<b.Patch
     ·exact ⟨-1,by simp [h1,h2,h3,h4,h5],by simp [e,e2,h5]⟩
     ·by_cases h6:b.Patch<a.Patch
      ·exact ⟨1,by simp [h1,h2,h3,h4,h5,h6],by simp [e,e2,h5]⟩
      ·exact ⟨0,by simp [h1,h2,h3,h4,h5,h6],by simp [e,e2,h5]⟩
theorem zNk {l:List zL} (hl:l.length≤1000) (n:zT):qB l n=some (jA l n):=by
 unfold qB jA
 rw [zFq hl,zFq hl]
 cases h1:gL l n.Component with
 | none=>rfl
 | some v=>
  obtain ⟨r,e1,e2⟩:=zGn v n.From
  simp only [bnd_some,Bool.not_true,cond_false,e1,e2]
  cases h2:vlt v n.From
  ·simp only [cond_false,Bool.false_or]
   cases h3:gL l n.On with
   | none=>rfl
   | some u=>
    obtain ⟨r',e3,e4⟩:=zGn u n.At
    simp only [bnd_some,cond_true,e3]
    have:decide (r'≥0)=!vlt u n.At:=by rw [←e4,←decide_not]; congr 1; simp
    rw [this]
  ·rfl
def zIK (l:List zL) (needs:List zT) (r:Int × Int):Prop:=
 if tI l=false then r=(0,1) else if jT needs=false then r=(0,2) else r.2=0∧decide (r.1<0)=needs.all (jA l)
theorem gO (l:List zL) (needs:List zT):∃ r,xT l needs=some r∧zIK l needs r:=by
 unfold xT zIK
 rw [zSX,zRt]
 cases h1:tI l
 ·exact ⟨(0,1),rfl,by simp⟩
 simp only [bnd_some,Bool.not_true,cond_false,Bool.true_eq_false,if_false]
 cases h2:jT needs
 ·exact ⟨(0,2),rfl,by simp⟩
 simp only [bnd_some,Bool.not_true,cond_false,Bool.true_eq_false,if_false]
 have hl:l.length≤8:=by
  unfold tI at h1
  have:=(Bool.and_eq_true_iff.1 h1).1
  simpa using this
 have hn:needs.length≤16:=by
  unfold jT at h2
  have:=(Bool.and_eq_true_iff.1 h2).1
  simpa using this
 rcases bG needs (fun x=>!jA l x) (fun i _=>(.inl ((i:Int),0):(Int × Int) ⊕ Unit)) (fun i=>match needs[i]? with | some x=>if (!jA l x)=true then some (.inl ((i:Int),0)) else none | none=>none) (fun i hi=>by rw [List.getElem?_eq_getElem hi]) with ⟨i,hi,g1,g2,g3⟩ | ⟨g1,g2,g3⟩
 ·refine ⟨((i:Int),0),?_,rfl,?_⟩
  ·refine rY (fun (i:Nat)=>(i:Int)) needs.length (fun i=>match needs[i]? with | some x=>if (!jA l x)=true then some (.inl ((i:Int),0)) else none | none=>none) (.inr ()) rfl (fun i hi=>?_) ?_ ?_
   ·have d0:decide ((i:Int)<(needs.length:Int))=true:=by simp; omega
    simp only [d0,cond_true,yR hi,bnd_some,zQ hi (by omega),List.getElem?_eq_getElem hi,zNk (l:=l) (by omega)]
    cases jA l needs[i] <;> rfl
   ·have d0:decide ((needs.length:Int)<(needs.length:Int))=false:=by simp
    simp only [d0,cond_false]
   ·rw [g3]; rfl
  ·have:needs.all (jA l)=false:=by
    cases hc:needs.all (jA l)
    ·rfl
    ·have:=List.all_eq_true.1 hc _ (List.getElem_mem hi)
     rw [this] at g1; cases g1
   rw [this]
   simp
 ·refine ⟨(-1,0),?_,rfl,?_⟩
  ·refine rY (fun (i:Nat)=>(i:Int)) needs.length (fun i=>match needs[i]? with | some x=>if (!jA l x)=true then some (.inl ((i:Int),0)) else none | none=>none) (.inr ()) rfl (fun i hi=>?_) ?_ ?_
   ·have d0:decide ((i:Int)<(needs.length:Int))=true:=by simp; omega
    simp only [d0,cond_true,yR hi,bnd_some,zQ hi (by omega),List.getElem?_eq_getElem hi,zNk (l:=l) (by omega)]
    cases jA l needs[i] <;> rfl
   ·have d0:decide ((needs.length:Int)<(needs.length:Int))=false:=by simp
    simp only [d0,cond_false]
   ·rw [g3]; rfl
  ·have:needs.all (jA l)=true:=List.all_eq_true.2 fun x hx=>by simpa using g2 x hx
   rw [this]
   rfl
def wW (l:List zL):List (List Nat):=l.map fun x=>bs x.Name
def sW (p:xE):Nat:=
 if (tI p.Now&&tI p.Next)=false then 1 else if jT p.Needs=false then 2 else if wW p.Now≠wW p.Next then 8 else
  if (p.Needs.all (jA p.Now)&&p.Needs.all (jA p.Next))=false then 42 else 0
theorem zKi:tI []=true:=rfl
theorem zKf:jT []=true:=rfl
theorem zEg {l:List zL} (h:tI l=true):l.length≤8:=by
 unfold tI at h
 have:=(Bool.and_eq_true_iff.1 h).1
 simpa using this
theorem zKN {a b:List zL} (ha:a.length≤1000):zZ a b=some (decide (wW a=wW b)):=by
 unfold zZ
 by_cases hl:a.length=b.length
 ·have d1:((a.length:Int) != (b.length:Int))=false:=by simp [hl]
  rw [d1]
  simp only [cond_false]
  refine nA (fun (i:Nat)=>(i:Int)) a.length (fun i=>match a[i]?,b[i]? with | some x,some y=>!decide (bs x.Name=bs y.Name) | _,_=>false) (.inl false) (.inr ()) rfl (fun i hi=>?_) ?_ ?_
  ·have d0:decide ((i:Int)<(a.length:Int))=true:=by simp; omega
   have hb:i<b.length:=by omega
   simp only [d0,cond_true,yR hi,yR hb,bnd_some,zQ hi (by omega),List.getElem?_eq_getElem hi,List.getElem?_eq_getElem hb,rT,zCx]
   cases decide (bs a[i].Name=bs b[i].Name) <;> rfl
  ·have d0:decide ((a.length:Int)<(a.length:Int))=false:=by simp
   simp only [d0,cond_false]
  ·have:(List.range a.length).any (fun i=>match a[i]?,b[i]? with | some x,some y=>!decide (bs x.Name=bs y.Name) | _,_=>false)=!decide (wW a=wW b):=by
    rw [Bool.eq_iff_iff]
    simp only [List.any_eq_true,List.mem_range,Bool.not_eq_true',decide_eq_false_iff_not]
    constructor
    ·rintro ⟨i,hi,h⟩ he
     have hb:i<b.length:=by omega
     rw [List.getElem?_eq_getElem hi,List.getElem?_eq_getElem hb] at h
     simp only [Bool.not_eq_true',decide_eq_false_iff_not] at h
     apply h
     have:(wW a)[i]? =(wW b)[i]?:=by rw [he]
     simpa [wW,hi,hb] using this
    ·intro h
     refine Classical.byContradiction fun hn=>h ?_
     apply List.ext_getElem?
     intro i
     by_cases hi:i<a.length
     ·have hb:i<b.length:=by omega
      refine Classical.byContradiction fun hne=>hn ⟨i,hi,?_⟩
      rw [List.getElem?_eq_getElem hi,List.getElem?_eq_getElem hb]
      simp only [Bool.not_eq_true',decide_eq_false_iff_not]
      intro e
      apply hne
      simp [wW,hi,hb,e]
     ·rw [List.getElem?_eq_none (by simp [wW]; omega),List.getElem?_eq_none (by simp [wW]; omega)]
   rw [this]
   cases decide (wW a=wW b) <;> rfl
 ·have d1:((a.length:Int) != (b.length:Int))=true:=by
   rw [bne_iff_ne]; omega
  rw [d1]
  have:decide (wW a=wW b)=false:=by
   simp only [decide_eq_false_iff_not]
   intro h
   have:=congrArg List.length h
   simp [wW] at this
   exact hl this
  rw [this]
  rfl
theorem zKV (p:xE):sV p=some (sW p:Int):=by
 unfold sV sW
 obtain ⟨r1,a1,b1⟩:=gO p.Now []
 obtain ⟨r2,a2,b2⟩:=gO p.Next []
 obtain ⟨r3,a3,b3⟩:=gO [] p.Needs
 obtain ⟨r5,a5,b5⟩:=gO p.Now p.Needs
 obtain ⟨r6,a6,b6⟩:=gO p.Next p.Needs
 simp only [a1,a2,a3,a5,a6,bnd_some]
 unfold zIK at b1 b2 b3 b5 b6
 rw [zKf] at b1 b2
 rw [zKi] at b3
 cases h1:tI p.Now
 ·rw [if_pos h1] at b1
  subst b1
  rfl
 rw [if_neg (by rw [h1]; simp)] at b1
 simp only [Bool.true_eq_false,if_false] at b1
 have c1:(r1.2 != 0)=false:=by rw [b1.1]; rfl
 rw [c1]
 cases h2:tI p.Next
 ·rw [if_pos h2] at b2
  subst b2
  rfl
 rw [if_neg (by rw [h2]; simp)] at b2
 simp only [Bool.true_eq_false,if_false] at b2
 have c2:(r2.2 != 0)=false:=by rw [b2.1]; rfl
 rw [c2]
 simp only [cond_false,bnd_some,Bool.and_self,Bool.true_eq_false,if_false] at b3 ⊢
 cases h3:jT p.Needs
 ·rw [if_pos h3] at b3
  subst b3
  rfl
 rw [if_neg (by rw [h3]; simp)] at b3
 have c3:(r3.2 != 0)=false:=by rw [b3.1]; rfl
 rw [c3]
 simp only [cond_false,Bool.true_eq_false,if_false]
 rw [zKN (by have:=zEg h1; omega)]
 by_cases h4:wW p.Now=wW p.Next
 ·simp only [h4,decide_true,bnd_some,Bool.not_true,cond_false,ne_eq,not_true_eq_false,if_false]
  rw [if_neg (by rw [h1]; simp),if_neg (by rw [h3]; simp)] at b5
  rw [if_neg (by rw [h2]; simp),if_neg (by rw [h3]; simp)] at b6
  have e5:decide (r5.1≥0)=!p.Needs.all (jA p.Now):=by rw [←b5.2,←decide_not]; congr 1; simp
  have e6:decide (r6.1≥0)=!p.Needs.all (jA p.Next):=by rw [←b6.2,←decide_not]; congr 1; simp
  rw [e5,e6]
  cases p.Needs.all (jA p.Now) <;> cases p.Needs.all (jA p.Next) <;> rfl
 ·simp only [h4,decide_false,bnd_some,Bool.not_false,cond_true,ne_eq,not_false_eq_true,if_true]
  rfl
structure iW (p:xE):Prop where
 now:tI p.Now=true
 next:tI p.Next=true
 needs:jT p.Needs=true
 names:wW p.Now=wW p.Next
 met0:p.Needs.all (jA p.Now)=true
 met1:p.Needs.all (jA p.Next)=true
theorem zNr {p:xE}:sW p=0↔iW p:=by
 unfold sW
 constructor
 ·intro h
  split at h
  ·cases h
  ·rename_i h1
   split at h
   ·cases h
   ·rename_i h2
    split at h
    ·cases h
    ·rename_i h3
     split at h
     ·cases h
     ·rename_i h4
      simp only [Bool.and_eq_false_iff,not_or,Bool.not_eq_false] at h1 h4
      exact ⟨h1.1,h1.2,by simpa using h2,Classical.not_not.1 h3,h4.1,h4.2⟩
 ·intro h
  rw [if_neg (by rw [h.now,h.next]; simp),if_neg (by rw [h.needs]; simp),if_neg (by simp [h.names]),if_neg (by rw [h.met0,h.met1]; simp)]
theorem iW.len {p:xE} (h:iW p):p.Next.length=p.Now.length:=by
 have:=congrArg List.length h.names
 simpa [wW] using this.symm
theorem iW.le8 {p:xE} (h:iW p):p.Now.length≤8:=zEg h.now
end Go.Proofs.YtplchdlgdjcojaaGreatDoor
end
section
namespace Go.Proofs.YtplchdlgdjcojaaGreatDoor
open Go
set_option linter.unusedSimpArgs false
set_option linter.unusedVariables false
def zCE (n:Nat) (f:Nat→Bool):Nat:=(List.range n).foldl (fun s i=>if f i=true then s|||2 ^ i else s) 0
theorem zAD (n:Nat) (f:Nat→Bool):zCE (n+1) f=if f n=true then zCE n f|||2 ^ n else zCE n f:=by
 simp [zCE,List.range_succ]
theorem zJj (n:Nat) (f:Nat→Bool):zCE n f<2 ^ n:=by
 induction n with
 | zero=>simp [zCE]
 | succ n ih=>
  rw [zAD]
  have h1:zCE n f<2 ^ (n+1):=Nat.lt_trans ih (Nat.pow_lt_pow_right (by omega) (by omega))
  have h2:2 ^ n<2 ^ (n+1):=Nat.pow_lt_pow_right (by omega) (by omega)
  split
  ·exact Nat.or_lt_two_pow h1 h2
  ·exact h1
theorem zKU (n:Nat) (f:Nat→Bool) (i:Nat):(zCE n f).testBit i=(decide (i<n)&&f i):=by
 induction n with
 | zero=>simp [zCE]
 | succ n ih=>
  rw [zAD]
  by_cases hi:i=n
  ·subst hi
   cases h:f i
   ·simp [ih]
   ·simp [Nat.testBit_or,ih]
  ·have e:decide (i<n+1)=decide (i<n):=by
    congr 1
    simp only [eq_iff_iff]
    omega
   split
   ·rw [Nat.testBit_or,ih,Nat.testBit_two_pow_of_ne (fun h=>hi h.symm),e]
    simp
   ·rw [ih,e]
theorem zIN (a i:Nat):(a / 2 ^ i)&&&1=if a.testBit i=true then 1 else 0:=by
 rw [Nat.and_one_is_mod,Nat.testBit_eq_decide_div_mod_eq]
 by_cases h:a / 2 ^ i % 2=1
 ·simp [h]
 ·simp [h]; omega
theorem zNA (a i:Nat):(((((a / 2 ^ i)&&&1:Nat)):Int)==1)=a.testBit i:=by
 rw [zIN]
 cases a.testBit i <;> rfl
theorem zUj (a i:Nat):(((((a / 2 ^ i)&&&1:Nat)):Int)==0)=!a.testBit i:=by
 rw [zIN]
 cases a.testBit i <;> rfl
theorem zUp (a i:Nat):((((a|||2 ^ i:Nat)):Int)==(a:Int))=a.testBit i:=by
 cases h:a.testBit i
 ·rw [beq_eq_false_iff_ne]
  intro e
  have:a|||2 ^ i=a:=by exact_mod_cast e
  have h2:(a|||2 ^ i).testBit i=true:=by simp [Nat.testBit_or]
  rw [this,h] at h2
  cases h2
 ·rw [beq_iff_eq]
  congr 1
  apply Nat.eq_of_testBit_eq
  intro j
  rw [Nat.testBit_or]
  by_cases hj:i=j
  ·subst hj; simp [h]
  ·simp [Nat.testBit_two_pow_of_ne hj]
def bJ (S F:Nat):Prop:=∀ i,S.testBit i=true→F.testBit i=true
theorem bJ.le {S F:Nat} (h:bJ S F):S≤F:=by
 have:S|||F=F:=by
  apply Nat.eq_of_testBit_eq
  intro i
  rw [Nat.testBit_or]
  cases hs:S.testBit i
  ·simp
  ·simp [h i hs]
 rw [←this]
 exact Nat.left_le_or
theorem bJ.zero (F:Nat):bJ 0 F:=fun i h=>by simp at h
theorem bJ.refl (F:Nat):bJ F F:=fun i h=>h
theorem bJ.or {S F i:Nat} (h:bJ S F) (hi:F.testBit i=true):bJ (S|||2 ^ i) F:=fun j hj=>by
 rw [Nat.testBit_or] at hj
 by_cases hji:i=j
 ·subst hji; exact hi
 ·rw [Nat.testBit_two_pow_of_ne hji] at hj
  exact h j (by simpa using hj)
theorem zJk (S i j:Nat):(S|||2 ^ i).testBit j=(S.testBit j||decide (i=j)):=by
 rw [Nat.testBit_or]
 by_cases h:i=j
 ·subst h; simp
 ·simp [Nat.testBit_two_pow_of_ne h,h]
theorem zOH {S i:Nat} (h:S.testBit i=false):S<S|||2 ^ i:=by
 rcases Nat.lt_or_ge S (S|||2 ^ i) with g | g
 ·exact g
 ·have e:S|||2 ^ i=S:=Nat.le_antisymm g Nat.left_le_or
  have:=zJk S i i
  rw [e,h] at this
  simp at this
def bI (p:xE) (i:Nat):Bool:=match p.Now[i]?,p.Next[i]? with
 | some x1,some x2=>!((x1.Version.Major==x2.Version.Major)&&((x1.Version.Minor==x2.Version.Minor)&&((x1.Version.Patch==x2.Version.Patch)&&true)))
 | _,_=>false
def yS (p:xE):Nat:=zCE p.Now.length (bI p)
theorem zWp {i:Nat} (h:i<8):2 ^ i<256:=Nat.pow_lt_pow_right (a:=2) (n:=8) (by omega) h
theorem zXm {i:Nat} (h:i<8):zCH .i64 1 (i:Int)=some ((2 ^ i:Nat):Int):=by
 have:=zSI (a:=1) (s:=i) (by omega) (by rw [Nat.one_mul]; have:=zWp h; omega)
 rw [Nat.one_mul] at this
 exact this
theorem zWZ {a i:Nat} (h:i≤64):zGe .i64 (a:Int) (i:Int)=some ((a / 2 ^ i:Nat):Int):=zTg h
theorem or1 {a i:Nat} (ha:a<256) (h:i<8):iOr .i64 (a:Int) ((2 ^ i:Nat):Int)=((a|||2 ^ i:Nat):Int):=zCR (a:=a) (b:=2 ^ i) (by omega) (by have:=zWp h; omega)
theorem zVW {a:Nat} (h:a<4611686018427387904):rK .i64 (a:Int) 1=((a&&&1:Nat):Int):=zSE (b:=1) h (by omega)
theorem zXv {a i:Nat} (ha:a<256) (h:i<8):a|||2 ^ i<256:=Nat.or_lt_two_pow (n:=8) ha (zWp h)
theorem zAI {n:Nat} {f:Nat→Bool} (h:n≤8):zCE n f<256:=Nat.lt_of_lt_of_le (zJj n f) (Nat.pow_le_pow_right (by omega) h)
theorem zRc {p:xE} (h:p.Now.length≤8) (hl:p.Next.length=p.Now.length):qS p=some (yS p:Int):=by
 unfold qS yS
 refine xS (fun (i:Nat)=>(((zCE i (bI p):Nat):Int),(i:Int))) p.Now.length _ rfl (fun i hi=>?_) ?_ rfl
 ·have d0:decide ((i:Int)<(p.Now.length:Int))=true:=by simp; omega
  have hb:i<p.Next.length:=by omega
  simp only [d0,cond_true,yR hi,yR hb,bnd_some,zQ hi (by omega),zXm (i:=i) (by omega),or1 (a:=zCE i (bI p)) (zAI (by omega)) (i:=i) (by omega)]
  rw [zAD]
  have e:bI p i=!((p.Now[i].Version.Major==p.Next[i].Version.Major)&&((p.Now[i].Version.Minor==p.Next[i].Version.Minor)&&((p.Now[i].Version.Patch==p.Next[i].Version.Patch)&&true))):=by
   unfold bI
   rw [List.getElem?_eq_getElem hi,List.getElem?_eq_getElem hb]
  rw [←e]
  cases bI p i <;> rfl
 ·have d0:decide ((p.Now.length:Int)<(p.Now.length:Int))=false:=by simp
  simp only [d0,cond_false]
def stU (p:xE) (S i:Nat):List zL:=p.Now.mapIdx fun j a=>if (decide (j<i)&&S.testBit j)=true then (p.Next[j]?).getD a else a
def nU (p:xE) (S:Nat):List zL:=stU p S p.Now.length
@[simp] theorem stU_len (p:xE) (S i:Nat):(stU p S i).length=p.Now.length:=by simp [stU]
theorem zCS {p:xE} (hl:p.Next.length=p.Now.length) {S i j:Nat} (hj:j<p.Now.length):(stU p S i)[j]'(by simpa using hj)=if (decide (j<i)&&S.testBit j)=true then p.Next[j] else p.Now[j]:=by
 simp only [stU,List.getElem_mapIdx]
 have:j<p.Next.length:=by omega
 rw [List.getElem?_eq_getElem this]
 rfl
theorem zQk (p:xE) (S:Nat):stU p S 0=p.Now:=by
 apply List.ext_getElem (by simp)
 intro j h1 h2
 simp [stU]
theorem zRj {p:xE} (hl:p.Next.length=p.Now.length) {S i:Nat} (hi:i<p.Now.length):stU p S (i+1)=if S.testBit i=true then (stU p S i).set i p.Next[i] else stU p S i:=by
 split
 ·rename_i hb
  apply List.ext_getElem (by simp)
  intro j h1 h2
  have hj:j<p.Now.length:=by simpa using h1
  rw [zCS hl hj]
  by_cases hji:j=i
  ·subst hji
   simp [hb]
  ·rw [List.getElem_set_ne (fun h=>hji h.symm),zCS hl hj]
   have:decide (j<i+1)=decide (j<i):=by
    congr 1
    simp only [eq_iff_iff]
    omega
   rw [this]
 ·rename_i hb
  apply List.ext_getElem (by simp)
  intro j h1 h2
  have hj:j<p.Now.length:=by simpa using h1
  rw [zCS hl hj,zCS hl hj]
  by_cases hji:j=i
  ·subst hji
   simp [hb]
  ·have:decide (j<i+1)=decide (j<i):=by
    congr 1
    simp only [eq_iff_iff]
    omega
   rw [this]
theorem zXn {α:Type} {xs:List α} {i:Nat} {y:α} (h:i<xs.length):tH xs (i:Int) y=some (xs.set i y):=by
 unfold tH
 rw [if_pos ⟨by omega,by omega⟩]
 simp
theorem zSc {p:xE} (h:p.Now.length≤8) (hl:p.Next.length=p.Now.length) {S:Nat} (hS:S<256):pF p (S:Int)=some (nU p S):=by
 unfold pF xL
 rw [uQ (by simp; omega) (by simp; omega)]
 simp only [List.nil_append,bnd_some]
 refine xS (fun (i:Nat)=>((i:Int),stU p S i)) p.Now.length _ (by rw [zQk]; rfl) (fun i hi=>?_) ?_ rfl
 ·have d0:decide ((i:Int)<(p.Now.length:Int))=true:=by simp; omega
  have hb:i<p.Next.length:=by omega
  have hst:i<(stU p S i).length:=by simpa using hi
  have hd:S / 2 ^ i<4611686018427387904:=Nat.lt_of_le_of_lt (Nat.div_le_self _ _) (by omega)
  simp only [d0,cond_true,zWZ (a:=S) (i:=i) (by omega),bnd_some,zVW hd,zNA,yR hb,yR hst,zXn hst,zQ hi (by omega),zRj hl hi]
  cases S.testBit i <;> rfl
 ·have d0:decide ((p.Now.length:Int)<(p.Now.length:Int))=false:=by simp
  simp only [d0,cond_false,nU]
theorem iW.name {p:xE} (h:iW p) {i:Nat} (hi:i<p.Now.length):(p.Next[i]'(by rw [h.len]; exact hi)).Name=p.Now[i].Name:=by
 have h2:i<p.Next.length:=by rw [h.len]; exact hi
 have:(wW p.Now)[i]? =(wW p.Next)[i]?:=by rw [h.names]
 simp [wW,hi,h2] at this
 exact (zQi this).symm
theorem zFN {l:List zL} (h:tI l=true) {i:Nat} (hi:i<l.length):cOk l i=true:=by
 unfold tI at h
 exact List.all_eq_true.1 (Bool.and_eq_true_iff.1 h).2 i (by simpa using hi)
theorem zER {p:xE} (h:iW p) {S i:Nat} (hi:i<p.Now.length):(nU p S)[i]'(by simpa [nU] using hi)=if S.testBit i=true then p.Next[i]'(by rw [h.len]; exact hi) else p.Now[i]:=by
 unfold nU
 rw [zCS h.len hi]
 simp [hi]
theorem zDN {p:xE} (h:iW p) {S i:Nat} (hi:i<p.Now.length):((nU p S)[i]'(by simpa [nU] using hi)).Name=p.Now[i].Name:=by
 rw [zER h hi]
 split
 ·exact h.name hi
 ·rfl
theorem zLQ {p:xE} (h:iW p) (S:Nat):tI (nU p S)=true:=by
 unfold tI
 have hlen:(nU p S).length=p.Now.length:=by simp [nU]
 rw [hlen]
 refine Bool.and_eq_true_iff.2 ⟨by simpa using h.le8,List.all_eq_true.2 fun i hi=>?_⟩
 have hi:i<p.Now.length:=by simpa using hi
 have h1:=zFN h.now hi
 have h2:=zFN h.next (i:=i) (by rw [h.len]; exact hi)
 have hs:i<(nU p S).length:=by rw [hlen]; exact hi
 have hn:i<p.Next.length:=by rw [h.len]; exact hi
 unfold cOk at h1 h2 ⊢
 rw [List.getElem?_eq_getElem hs]
 rw [List.getElem?_eq_getElem hi] at h1
 rw [List.getElem?_eq_getElem hn] at h2
 simp only [zDN h hi,Bool.and_eq_true] at h1 h2 ⊢
 refine ⟨⟨h1.1.1,?_⟩,?_⟩
 ·rw [zER h hi]
  split
  ·exact h2.1.2
  ·exact h1.1.2
 ·have h3:=h1.2
  by_cases h0:i=0
  ·simp [h0]
  ·have hp:i - 1<p.Now.length:=by omega
   have hps:i - 1<(nU p S).length:=by omega
   rw [List.getElem?_eq_getElem hp] at h3
   rw [List.getElem?_eq_getElem hps]
   simp only [zDN h hp]
   exact h3
def qQ (p:xE) (S:Nat):Bool:=p.Needs.all (jA (nU p S))
theorem zUa {p:xE} (h:iW p) {S:Nat} (hS:S<256):tJ p (S:Int)=some (qQ p S):=by
 unfold tJ
 obtain ⟨r,a,b⟩:=gO (nU p S) p.Needs
 rw [zSc h.le8 h.len hS]
 simp only [bnd_some,a]
 unfold zIK at b
 rw [if_neg (by rw [zLQ h]; simp),if_neg (by rw [h.needs]; simp)] at b
 have e:(r.2==0)=true:=by rw [b.1]; rfl
 rw [e]
 simp only [cond_true,bnd_some,b.2]
 rfl
theorem zJV {p:xE} (i:Nat):(yS p).testBit i=(decide (i<p.Now.length)&&bI p i):=zKU _ _ _
section
variable (n F:Nat) (G:Nat→Bool)
def gA (S i:Nat):Bool:=F.testBit i&&(!S.testBit i&&G (S|||2 ^ i))
def zBI:Nat→Nat→Option (List Nat)
 | 0,_=>none
 | k+1,S=>if S=F then some [] else (List.range n).findSome? fun i=>if gA F G S i=true then (zBI k (S|||2 ^ i)).map (i:: ·) else none
def lst (S:Nat):Option (List Nat):=zBI n F G (F - S+1) S
def bC:Nat→List Nat→Prop
 | S, []=>S=F
 | S,i::l=>gA F G S i=true∧bC (S|||2 ^ i) l
theorem zKC {α β:Type} {l:List α} {f g:α→Option β} (h:∀ x∈l,f x=g x):l.findSome? f=l.findSome? g:=by
 induction l with
 | nil=>rfl
 | cons x r ih=>
  rw [List.findSome?_cons,List.findSome?_cons,h x (by simp),ih fun y hy=>h y (by simp [hy])]
theorem mX {F:Nat} {G:Nat→Bool} {S i:Nat} (h:gA F G S i=true):F.testBit i=true∧S.testBit i=false∧G (S|||2 ^ i)=true:=by
 unfold gA at h
 simpa using h
theorem zHb (k k' S:Nat) (hs:bJ S F) (h1:F - S<k) (h2:F - S<k'):zBI n F G k S=zBI n F G k' S:=by
 induction k generalizing k' S with
 | zero=>omega
 | succ k ih=>
  cases k' with
  | zero=>omega
  | succ k'=>
   unfold zBI
   by_cases he:S=F
   ·rw [if_pos he,if_pos he]
   ·rw [if_neg he,if_neg he]
    refine zKC fun i _=>?_
    by_cases hst:gA F G S i=true
    ·rw [if_pos hst,if_pos hst]
     obtain ⟨a,b,_⟩:=mX hst
     have h3:=zOH b
     have h4:=(hs.or a).le
     rw [ih k' (S|||2 ^ i) (hs.or a) (by omega) (by omega)]
    ·rw [if_neg hst,if_neg hst]
theorem zFJ {S:Nat} (hs:bJ S F) (hne:S≠F):lst n F G S=(List.range n).findSome? fun i=>if gA F G S i=true then (lst n F G (S|||2 ^ i)).map (i:: ·) else none:=by
 have hle:=hs.le
 unfold lst
 conv=>lhs; unfold zBI
 rw [if_neg hne]
 refine zKC fun i _=>?_
 by_cases hst:gA F G S i=true
 ·rw [if_pos hst,if_pos hst]
  obtain ⟨a,b,_⟩:=mX hst
  have h3:=zOH b
  have h4:=(hs.or a).le
  rw [zHb n F G _ (F - (S|||2 ^ i)+1) _ (hs.or a) (by omega) (by omega)]
 ·rw [if_neg hst,if_neg hst]
theorem zFU:lst n F G F=some []:=by
 unfold lst zBI
 rw [if_pos rfl]
theorem zJK {β:Type} {f:Nat→Option β} {m i:Nat} {v:β} (hi:i<m) (h:f i=some v) (hn:∀ j,j<i→f j=none):(List.range m).findSome? f=some v:=by
 induction m with
 | zero=>omega
 | succ m ih=>
  rw [List.range_succ,List.findSome?_append]
  by_cases hm:i=m
  ·subst hm
   have:(List.range i).findSome? f=none:=List.findSome?_eq_none_iff.2 fun x hx=>hn x (by simpa using hx)
   rw [this]
   simp [h]
  ·rw [ih (by omega)]
   rfl
theorem zUt {β:Type} {f:Nat→Option β} {m:Nat} (hn:∀ j,j<m→f j=none):(List.range m).findSome? f=none:=
 List.findSome?_eq_none_iff.2 fun x hx=>hn x (by simpa using hx)
theorem zTQ {β:Type} {f:Nat→Option β} {m:Nat} {v:β} (h:(List.range m).findSome? f=some v):∃ i,i<m∧f i=some v∧∀ j,j<i→f j=none:=by
 induction m with
 | zero=>simp at h
 | succ m ih=>
  rw [List.range_succ,List.findSome?_append] at h
  cases h1:(List.range m).findSome? f with
  | some u=>
   rw [h1] at h
   simp at h
   subst h
   obtain ⟨i,a,b,c⟩:=ih h1
   exact ⟨i,by omega,b,c⟩
  | none=>
   rw [h1] at h
   simp at h
   exact ⟨m,by omega,h,fun j hj=>List.findSome?_eq_none_iff.1 h1 j (by simpa using hj)⟩
theorem zJQ (P:Nat→Prop) (h:∀ S,bJ S F→(∀ i,gA F G S i=true→P (S|||2 ^ i))→P S):∀ S,bJ S F→P S:=by
 have:∀ k S,F - S<k→bJ S F→P S:=by
  intro k
  induction k with
  | zero=>intro S h1; omega
  | succ k ih=>
   intro S h1 hs
   refine h S hs fun i hst=>?_
   obtain ⟨a,b,_⟩:=mX hst
   have h3:=zOH b
   have h4:=(hs.or a).le
   exact ih _ (by omega) (hs.or a)
 exact fun S hs=>this (F - S+1) S (by omega) hs
theorem zNp (S:Nat) (hs:bJ S F):∀ l,lst n F G S=some l→bC F G S l:=by
 refine zJQ F G (fun S=>∀ l,lst n F G S=some l→bC F G S l) (fun S hs ih l hl=>?_) S hs
 by_cases he:S=F
 ·subst he
  rw [zFU] at hl
  injection hl with hl
  subst hl
  rfl
 ·rw [zFJ n F G hs he] at hl
  obtain ⟨i,_,h1,_⟩:=zTQ hl
  split at h1
  ·rename_i hst
   rw [Option.map_eq_some_iff] at h1
   obtain ⟨r,h2,rfl⟩:=h1
   exact ⟨hst,ih i hst r h2⟩
  ·cases h1
theorem zWq {F n i:Nat} (hF:F<2 ^ n) (h:F.testBit i=true):i<n:=by
 rcases Nat.lt_or_ge i n with g | g
 ·exact g
 ·have:=Nat.testBit_lt_two_pow (Nat.lt_of_lt_of_le hF (Nat.pow_le_pow_right (by omega) g))
  rw [this] at h; cases h
end
theorem zPZ (k:IntKind) (a b:Int):(yF k).eq a b=true↔a=b:=by
 show (a==b)=true↔a=b
 exact beq_iff_eq
def aD (n F:Nat) (G:Nat→Bool) (d:List (Int × Bool)):Prop:=∀ T:Nat,bJ T F→(vM (yF .i64).eq d (T:Int)).getD false=true→lst n F G T=none
theorem zNU {p:xE} (h:iW p):∀ (fuel S:Nat) (d:List (Int × Bool)) (o:List Int),bJ S (yS p)→yS p - S<fuel→o.length+(yS p - S)≤300→aD p.Now.length (yS p) (qQ p) d→
    ∃ d',aD p.Now.length (yS p) (qQ p) d'∧aL (yS p:Int) p fuel d (S:Int) o=some (d',match lst p.Now.length (yS p) (qQ p) S with | some l=>(o++iz l,true) | none=>([],false))
  | 0,S,d,o,_,hf,_,_=>by omega
  | fuel+1,S,d,o,hs,hf,ho,hd=>by
    have hF:yS p<256:=zAI h.le8
    have hle:=hs.le
    show ∃ d',_∧fI (yS p:Int) p (aL (yS p:Int) p fuel) d (S:Int) o=_
    unfold fI
    by_cases he:S=yS p
    · subst he
      have e:((yS p:Int)==(yS p:Int))=true:=by simp
      rw [e,zFU]
      exact ⟨d,hd,by simp⟩
    · have e : ((S : Int) == (yS p : Int)) = false := by
        rw [beq_eq_false_iff_ne]; exact_mod_cast he
      rw [e]
      simp only [cond_false]
      have hstep:=zFJ p.Now.length (yS p) (qQ p) hs he
      have key:∃ r,bnd (yG (τ:=(List (Int × Bool) × (List Int × Bool)) ⊕ (List (Int × Bool))) (fun (s1:Int × (List (Int × Bool)))=>bif decide (s1.1<(p.Now.length:Int)) then
          bnd (zCH .i64 1 s1.1) fun q1=>bnd (zGe .i64 (yS p:Int) s1.1) fun q2=>
          bif ((rK .i64 q2 1)==0) then some (.next (IntKind.wrap .i64 (s1.1+1),s1.2)) else
          bif ((iOr .i64 (S:Int) q1)==(S:Int)) then some (.next (IntKind.wrap .i64 (s1.1+1),s1.2)) else
          bif (vM (yF .i64).eq s1.2 (iOr .i64 (S:Int) q1)).getD false then some (.next (IntKind.wrap .i64 (s1.1+1),s1.2)) else
          bnd (tJ p (iOr .i64 (S:Int) q1)) fun r1=>bif !r1 then some (.next (IntKind.wrap .i64 (s1.1+1),s1.2)) else
          bnd (app 8 o [s1.1]) fun l1=>bnd (aL (yS p:Int) p fuel s1.2 (iOr .i64 (S:Int) q1) l1) fun r2=>
          bif r2.2.2 then some (.done (.inl (r2.1,r2.2.1,true))) else some (.next (IntKind.wrap .i64 (s1.1+1),r2.1))
          else some (.done (.inr s1.2))) (0,d)) (fun o2=>wT o2 fun o3=>some (nD (yF .i64).eq o3 (S:Int) true, [],false))=some r∧
          (aD p.Now.length (yS p) (qQ p) r.1∧r.2=match lst p.Now.length (yS p) (qQ p) S with | some l=>(o++iz l,true) | none=>([],false)):=by
        refine bD (fun s=>∃ i:Nat,i≤p.Now.length∧s.1=(i:Int)∧aD p.Now.length (yS p) (qQ p) s.2∧∀ j,j<i→(if gA (yS p) (qQ p) S j=true then (lst p.Now.length (yS p) (qQ p) (S|||2 ^ j)).map (j:: ·) else none)=none)
          (fun s=>p.Now.length - s.1.toNat)
          (fun t=>match t with
            | .inl r=>aD p.Now.length (yS p) (qQ p) r.1∧∃ l,lst p.Now.length (yS p) (qQ p) S=some l∧r.2=(o++iz l,true)
            | .inr d'=>aD p.Now.length (yS p) (qQ p) d'∧lst p.Now.length (yS p) (qQ p) S=none) ⟨0,by omega,rfl,hd,fun j hj=>by omega⟩ (fun s hI=>?_) (fun t ht=>?_)
        · obtain ⟨i, hi, h1, h2, h3⟩ := hI
          obtain ⟨s1,s2⟩:=s
          simp only at h1 h2
          subst h1
          by_cases hin:i<p.Now.length
          · have hi8 : i < 8 := by have := h.le8; omega
            have d0:decide ((i:Int)<(p.Now.length:Int))=true:=by simp; omega
            have hdv:yS p / 2 ^ i<4611686018427387904:=Nat.lt_of_le_of_lt (Nat.div_le_self _ _) (by omega)
            have hS:S<256:=by omega
            have hw:=zQ hin (by have:=h.le8; omega)
            have hnext:∀ d',aD p.Now.length (yS p) (qQ p) d'→(if gA (yS p) (qQ p) S i=true then (lst p.Now.length (yS p) (qQ p) (S|||2 ^ i)).map (i:: ·) else none)=none→
                ∃ i':Nat,i'≤p.Now.length∧(((i+1:Nat):Int),d').1=(i':Int)∧aD p.Now.length (yS p) (qQ p) (((i+1:Nat):Int),d').2∧∀ j,j<i'→(if gA (yS p) (qQ p) S j=true then (lst p.Now.length (yS p) (qQ p) (S|||2 ^ j)).map (j:: ·) else none)=none:=
              fun d' hd' hno=>⟨i+1,by omega,rfl,hd',fun j hj=>by
                by_cases hji:j=i
                · subst hji; exact hno
                · exact h3 j (by omega)⟩
            have hmu:∀ d':List (Int × Bool),p.Now.length - (((i+1:Nat):Int),d').1.toNat<p.Now.length - ((i:Int),s2).1.toNat:=fun d'=>by
              show p.Now.length - ((i+1:Nat):Int).toNat<p.Now.length - ((i:Nat):Int).toNat
              omega
            simp only [d0,cond_true,zXm hi8,zWZ (a:=yS p) (i:=i) (by omega),bnd_some,zVW hdv,zUj,or1 hS hi8,zUp,hw]
            cases hb1:(yS p).testBit i
            · refine .inl ⟨_, rfl, hnext s2 h2 ?_, hmu s2⟩
              rw [if_neg]
              unfold gA
              simp [hb1]
            cases hb2:S.testBit i
            · simp only [Bool.not_true, cond_false]
              have hor:=zXv hS hi8
              have hsub:=hs.or hb1
              cases hb3:(vM (yF .i64).eq s2 (((S|||2 ^ i:Nat)):Int)).getD false
              · simp only [cond_false, zUa h hor, bnd_some]
                cases hb4:qQ p (S|||2 ^ i)
                · refine .inl ⟨_, rfl, hnext s2 h2 ?_, hmu s2⟩
                  rw [if_neg]
                  unfold gA
                  simp [hb4]
                · simp only [Bool.not_true, cond_false]
                  have hlt:=zOH hb2
                  have hle2:=hsub.le
                  have hst:gA (yS p) (qQ p) S i=true:=by unfold gA; simp [hb1,hb2,hb4]
                  rw [uQ (by simp; omega) (by simp; omega)]
                  simp only [bnd_some]
                  obtain ⟨d',hd',hm⟩:=zNU h fuel (S|||2 ^ i) s2 (o++ [(i:Int)]) hsub (by omega) (by simp; omega) h2
                  rw [hm]
                  simp only [bnd_some]
                  cases hl:lst p.Now.length (yS p) (qQ p) (S|||2 ^ i) with
                  | none=>
                    refine .inl ⟨_,rfl,hnext d' hd' ?_,hmu d'⟩
                    rw [if_pos hst,hl]
                    rfl
                  | some l=>
                    refine .inr ⟨_,rfl,hd',i::l,?_,?_⟩
                    · rw [hstep]
                      refine zJK hin ?_ h3
                      rw [if_pos hst,hl]
                      rfl
                    · simp [iz]
              · refine .inl ⟨_, rfl, hnext s2 h2 ?_, hmu s2⟩
                have:=h2 _ hsub hb3
                rw [this]
                simp
            · refine .inl ⟨_, rfl, hnext s2 h2 ?_, hmu s2⟩
              rw [if_neg]
              unfold gA
              simp [hb2]
          · have d0 : decide ((i : Int) < (p.Now.length : Int)) = false := by simp; omega
            rw [d0]
            refine .inr ⟨_,rfl,h2,?_⟩
            rw [hstep]
            exact zUt fun j hj=>h3 j (by omega)
        · rcases t with r | d'
          · obtain ⟨h1, l, h2, h3⟩ := ht
            refine ⟨r,rfl,h1,?_⟩
            rw [h2,h3]
          · obtain ⟨h1, h2⟩ := ht
            refine ⟨_,rfl,?_,by rw [h2]⟩
            intro T hT hg
            rw [zDl (zPZ .i64)] at hg
            by_cases hTS:(T:Int)=(S:Int)
            · have : T = S := by exact_mod_cast hTS
              subst this
              exact h2
            · rw [if_neg hTS] at hg
              exact h1 T hT hg
      obtain ⟨r,k1,k2,k3⟩:=key
      refine ⟨r.1,k2,?_⟩
      rw [k1,←k3]
def iV (p:xE):Option (List Nat):=lst p.Now.length (yS p) (qQ p) 0
theorem zLL (p:xE):uW p=some (if sW p=0 then (match iV p with | some l=>(iz l,0) | none=>([],41)) else ([],(sW p:Int))):=by
 unfold uW
 rw [zKV]
 simp only [bnd_some]
 by_cases hv:sW p=0
 ·have h:=zNr.1 hv
  have e:((sW p:Int) != 0)=false:=by rw [hv]; rfl
  rw [e,if_pos hv,zRc h.le8 h.len]
  simp only [cond_false,bnd_some]
  have hF:yS p<256:=zAI h.le8
  obtain ⟨d',_,hm⟩:=zNU h aI 0 [] [] (bJ.zero _) (by unfold aI; omega) (by simp; omega) (fun T _ hg=>by simp [vM] at hg)
  have hm':aL (yS p:Int) p aI [] 0 []=_:=hm
  rw [hm']
  simp only [bnd_some]
  unfold iV
  cases lst p.Now.length (yS p) (qQ p) 0 <;> simp
 ·have e:((sW p:Int) != 0)=true:=by
   rw [bne_iff_ne]; exact_mod_cast hv
  rw [e,if_neg hv]
  rfl
end Go.Proofs.YtplchdlgdjcojaaGreatDoor
end
section
namespace Go.Proofs.YtplchdlgdjcojaaGreatDoor
open Go
set_option linter.unusedSimpArgs false
set_option linter.unusedVariables false
def zUQ:zK:=⟨1,0,0⟩
def eF:zK:=⟨2,0,0⟩
def exA:ByteArray:=⟨#[97]⟩
def exB:ByteArray:=⟨#[98]⟩
def exP (needs:List zT):xE:=⟨[⟨exA,zUQ⟩,⟨exB,zUQ⟩], [⟨exA,eF⟩,⟨exB,eF⟩],needs⟩
set_option maxRecDepth 20000 in
theorem ex1:sW (exP [⟨exA,eF,exB,eF⟩])=0∧iV (exP [⟨exA,eF,exB,eF⟩])=some [1,0]:=by decide
set_option maxRecDepth 20000 in
theorem ex2:sW (exP [⟨exA,eF,exB,eF⟩,⟨exB,eF,exA,eF⟩])=0∧iV (exP [⟨exA,eF,exB,eF⟩,⟨exB,eF,exA,eF⟩])=none:=by decide
def xX (n F:Nat):List Nat:=(List.range n).filter F.testBit
theorem zIz {F i:Nat} (hF:F<2 ^ i):∀ d,xX (i+d) F=xX i F
 | 0=>rfl
 | d+1=>by
  have ih:=zIz hF d
  unfold xX at*
  rw [show i+(d+1)=(i+d)+1 by omega,List.range_succ,List.filter_append,ih]
  have:F.testBit (i+d)=false:=Nat.testBit_lt_two_pow (Nat.lt_of_lt_of_le hF (Nat.pow_le_pow_right (by omega) (by omega)))
  simp [this]
theorem zTo {F i n:Nat} (hi:F<2 ^ i) (hn:F<2 ^ n):xX i F=xX n F:=by
 rcases Nat.le_total i n with g | g
 ·rw [show n=i+(n - i) by omega,zIz hi]
 ·rw [show i=n+(i - n) by omega,zIz hn]
theorem gK (F i:Nat):xX (i+1) F=if F.testBit i=true then xX i F++ [i] else xX i F:=by
 unfold xX
 rw [List.range_succ,List.filter_append]
 cases h:F.testBit i <;> simp [h]
theorem zQV (p:xE):pI p=some (if sW p=0 then iz (xX p.Now.length (yS p)) else []):=by
 unfold pI
 rw [zKV]
 simp only [bnd_some]
 by_cases hv:sW p=0
 ·have h:=zNr.1 hv
  have e:((sW p:Int) != 0)=false:=by rw [hv]; rfl
  rw [e,if_pos hv,zRc h.le8 h.len]
  simp only [cond_false,bnd_some]
  have hF:yS p<256:=zAI h.le8
  have hFn:yS p<2 ^ p.Now.length:=zJj _ _
  have key:∃ r,bnd (yG (τ:=List Int) (fun (s1:List Int × Int × Int)=>bif decide (s1.2.2>0) then (bif ((rK .i64 s1.2.2 1)==1) then (bnd (app 8 s1.1 [s1.2.1]) fun l1=>some (.next (l1,IntKind.wrap .i64 (s1.2.1+1),uD .i64 s1.2.2 1))) else (some (.next (s1.1,IntKind.wrap .i64 (s1.2.1+1),uD .i64 s1.2.2 1)))) else (some (.done s1.1))) ([],0,(yS p:Int))) (fun o1=>some o1)=some r∧r=iz (xX p.Now.length (yS p)):=by
   refine bD (fun s=>∃ i:Nat,i≤8∧s=(iz (xX i (yS p)),(i:Int),((yS p / 2 ^ i:Nat):Int))) (fun s=>9 - s.2.1.toNat) (fun t=>t=iz (xX p.Now.length (yS p))) ⟨0,by omega,by simp [xX]⟩ (fun s hI=>?_) (fun t ht=>⟨t,rfl,ht⟩)
   obtain ⟨i,hi,rfl⟩:=hI
   have hd1:yS p / 2 ^ i<4611686018427387904:=Nat.lt_of_le_of_lt (Nat.div_le_self _ _) (by omega)
   by_cases hz:yS p / 2 ^ i=0
   ·have e1:decide (((yS p / 2 ^ i:Nat):Int)>0)=false:=by rw [hz]; rfl
    simp only [e1,cond_false]
    refine .inr ⟨_,rfl,?_⟩
    have hlt:yS p<2 ^ i:=by
     rcases Nat.lt_or_ge (yS p) (2 ^ i) with g | g
     ·exact g
     ·have:=Nat.div_pos g (Nat.two_pow_pos i)
      omega
    rw [zTo hlt hFn]
   ·have e1:decide (((yS p / 2 ^ i:Nat):Int)>0)=true:=decide_eq_true (Int.natCast_pos.2 (Nat.pos_of_ne_zero hz))
    have hi8:i<8:=by
     rcases Nat.lt_or_ge i 8 with g | g
     ·exact g
     ·have:i=8:=by omega
      subst this
      have:yS p / 2 ^ 8=0:=Nat.div_eq_of_lt (by omega)
      omega
    have hb:(rK .i64 ((yS p / 2 ^ i:Nat):Int) 1==1)=(yS p).testBit i:=by rw [zVW hd1,zNA]
    have hsh:uD .i64 ((yS p / 2 ^ i:Nat):Int) 1=((yS p / 2 ^ (i+1):Nat):Int):=by
     have:=eL (k:=.i64) (a:=yS p / 2 ^ i) (s:=1) (by decide)
     rw [show ((1:Nat):Int)=1 from rfl] at this
     rw [this,Nat.div_div_eq_div_mul,←Nat.pow_add]
    have hw:=zQ hi8 (by omega)
    have hap:app 8 (iz (xX i (yS p))) [(i:Int)]=some (iz (xX i (yS p)++ [i])):=by
     have hlen:(xX i (yS p)).length≤8:=Nat.le_trans (List.length_filter_le _ _) (by simp; omega)
     rw [uQ (by simp; omega) (by simp; omega)]
     simp [iz]
    simp only [e1,cond_true,hb,hsh,hw]
    refine .inl ?_
    cases hbi:(yS p).testBit i
    ·refine ⟨_,rfl,⟨i+1,by omega,?_⟩,?_⟩
     ·rw [gK,hbi]; rfl
     ·show 9 - ((i+1:Nat):Int).toNat<9 - ((i:Nat):Int).toNat
      omega
    ·simp only [cond_true,hap,bnd_some]
     refine ⟨_,rfl,⟨i+1,by omega,?_⟩,?_⟩
     ·rw [gK,hbi]; rfl
     ·show 9 - ((i+1:Nat):Int).toNat<9 - ((i:Nat):Int).toNat
      omega
  obtain ⟨r,k1,k2⟩:=key
  rw [k1,k2]
 ·have e:((sW p:Int) != 0)=true:=by
   rw [bne_iff_ne]; exact_mod_cast hv
  rw [e,if_neg hv]
  rfl
theorem zKG {F:Nat} {G:Nat→Bool} {n:Nat} (hF:F<2 ^ n):∀ {l:List Nat} {S:Nat},bC F G S l→l.length+(xX n S).length=(xX n F).length
  | [],S,h=>by
    have:S=F:=h
    subst this; simp
  | i::l,S,h=>by
    obtain ⟨hst,hp⟩:=h
    obtain ⟨a,b,_⟩:=mX hst
    have hin:=zWq hF a
    have ih:=zKG hF hp
    have key:(xX n (S|||2 ^ i)).length=(xX n S).length+1:=by
      have:∀ m,(xX m (S|||2 ^ i)).length=(xX m S).length+(if i<m then 1 else 0):=by
        intro m
        induction m with
        | zero=>simp [xX]
        | succ m ihm=>
          rw [gK,gK,zJk]
          by_cases hm:i=m
          · subst hm
            simp [b,ihm]
          · simp only [hm, decide_false, Bool.or_false]
            cases S.testBit m
            · simp only [Bool.false_eq_true, if_false, ihm]
              by_cases h1:i<m
              · rw [if_pos h1,if_pos (by omega)]
              · rw [if_neg h1,if_neg (by omega)]
            · simp only [if_true, List.length_append, ihm, List.length_singleton]
              by_cases h1:i<m
              · rw [if_pos h1,if_pos (by omega)]
              · rw [if_neg h1,if_neg (by omega)]
      rw [this n,if_pos hin]
    rw [key] at ih
    rw [List.length_cons]
    omega
theorem zDB {F:Nat} {G:Nat→Bool}:∀ {l:List Nat} {S:Nat},bC F G S l→∀ i∈l,F.testBit i=true
 | [],S,h,i,hi=>by cases hi
 | j::l,S,h,i,hi=>by
  obtain ⟨hst,hp⟩:=h
  rcases List.mem_cons.1 hi with rfl | hi
  ·exact (mX hst).1
  ·exact zDB hp i hi
end Go.Proofs.YtplchdlgdjcojaaGreatDoor
end
section
namespace Go.Proofs.YtplchdlgdjcojaaGreatDoor
open Go
set_option linter.unusedSimpArgs false
set_option linter.unusedVariables false
theorem iB {σ τ ρ:Type} {m:σ→Option (rG σ τ)} {s0:σ} {k:τ→Option ρ} {R:ρ→Prop} (I:σ→Prop) (μ:σ→Nat) (Q:τ→Prop) (h0:I s0)
  (h:∀ s,I s→∃ r,m s=some r∧match r with | .next s'=>I s'∧μ s'<μ s | .done t=>Q t) (hk:∀ t,Q t→∃ r,k t=some r∧R r):∃ r,bnd (yG m s0) k=some r∧R r:=by
 refine bD I μ Q h0 (fun s hI=>?_) hk
 obtain ⟨r,h1,h2⟩:=h s hI
 cases r with
 | next s'=>exact .inl ⟨s',h1,h2.1,h2.2⟩
 | done t=>exact .inr ⟨t,h1,h2⟩
def kO:List ByteArray:= [⟨#[98,105,111,115]⟩,⟨#[99,112,108,100]⟩,⟨#[109,101]⟩,⟨#[112,115,117]⟩,⟨#[120,45,49]⟩,⟨#[122,122]⟩]
theorem zRQ:jJ=some kO:=rfl
def lU (l:List ByteArray):Bool:=decide (l.length≤8)&&(List.range l.length).all fun i=>match l[i]? with
 | some x=>lX x&&(i==0||match l[i - 1]? with | some y=>blt y x | none=>true)
 | none=>true
set_option maxRecDepth 20000 in
theorem zUB:∀ k,k<7→lU (kO.take k)=true:=by decide
set_option maxRecDepth 20000 in
theorem zWN:∀ i,i<6→lX ((kO[i]?).getD ⟨#[]⟩)=true:=by decide
structure zYd (p:xE):Prop where
 now:tI p.Now=true
 next:tI p.Next=true
 needs:jT p.Needs=true
 names:wW p.Now=wW p.Next
 few:p.Needs.length≤6
 two:2≤p.Now.length
theorem lD {c:xY} (h:vK c) {n:Int} (hn:1≤n):∃ r,zY c n=some r∧vK r.1∧0≤r.2∧r.2<n:=by
 obtain ⟨c',x,h1,h2,h3,h4⟩:=zTY h n
 exact ⟨(c',x),h1,h2,h3,by show x<n; omega⟩
theorem wQ {α β:Type} {x:Option α} {f:α→Option β} {P:α→Prop} {R:β→Prop} (h:∃ a,x=some a∧P a) (k:∀ a,P a→∃ r,f a=some r∧R r):∃ r,bnd x f=some r∧R r:=zWg h k
theorem zBA {p:xE} {l:List Nat} (h:iV p=some l):bC (yS p) (qQ p) 0 l:=zNp _ _ _ _ (bJ.zero _) l h
theorem zMQ {p:xE} (hv:sW p=0) {l:List Nat} (hp:bC (yS p) (qQ p) 0 l):l.length≤8:=by
 have h:=zNr.1 hv
 have:=zKG (F:=yS p) (n:=p.Now.length) (zJj _ _) hp
 have h2:(xX p.Now.length (yS p)).length≤8:=Nat.le_trans (List.length_filter_le _ _) (by simp; exact h.le8)
 omega
end Go.Proofs.YtplchdlgdjcojaaGreatDoor
end
section
namespace Go.Proofs.YtplchdlgdjcojaaGreatDoor
open Go
set_option linter.unusedSimpArgs false
set_option linter.unusedVariables false
def zDs:List Int→Option (zF × Nat)
 | k::n::r=>if n=128 then some (⟨k, [],true⟩,2) else if n>28∨(r.length:Int)<n then none else some (⟨k,r.take n.toNat,false⟩,2+n.toNat)
 | _=>none
theorem jI (k n:Int) (r:List Int):zDs (k::n::r)=if n=128 then some (⟨k, [],true⟩,2) else if n>28∨(r.length:Int)<n then none else some (⟨k,r.take n.toNat,false⟩,2+n.toNat):=rfl
theorem zCj {b:List Int} {x:zF} {n:Nat} (hr:rng b) (h:zDs b=some (x,n)):2≤n∧n≤b.length:=by
 match b,h with
 | k::c::r,h=>
  rw [jI] at h
  split at h
  ·injection h with h; injection h with _ h; subst h; simp
  ·split at h
   ·cases h
   ·rename_i h1
    have:=hr c (by simp)
    injection h with h; injection h with _ h; subst h
    simp only [List.length_cons]
    omega
theorem zEK {α:Type} {l:List α} {a b:Nat} (h1:a≤b) (h2:b≤l.length):Go.Proofs.YtplchdlgdjcojaaGreatDoor.sub l (a:Int) (b:Int)=some ((l.drop a).take (b - a)):=by
 unfold Go.Proofs.YtplchdlgdjcojaaGreatDoor.sub
 rw [if_pos ⟨by omega,by omega,by omega⟩]
 congr 1
 have e1:((a:Int)).toNat=a:=rfl
 have e2:((b:Int)).toNat=b:=rfl
 rw [e1,e2,List.drop_take]
def zRV (o:Option (zF × Nat)):zF × Int × Bool:=match o with | some (x,n)=>(x,(n:Int),true) | none=>(⟨0, [],false⟩,0,false)
theorem zPb {b:List Int} (hr:rng b) (hl:b.length≤16384):rM b=some (zRV (zDs b)):=by
 unfold rM
 match b,hr,hl with
 | [],_,_=>rfl
 | [k],_,_=>rfl
 | k::c::r,hr,hl=>
  have hc:=hr c (by simp)
  simp only [List.length_cons] at hl
  have e0:elt (k::c::r) 0=some k:=rfl
  have e1:elt (k::c::r) 1=some c:=rfl
  rw [yP (by simp only [List.length_cons,decide_eq_false_iff_not]; omega),e1,bnd_some,e0,jI]
  by_cases h1:c=128
  ·rw [xB (by simpa using h1),bnd_some,if_pos h1]
   rfl
  ·rw [yP (by simpa using h1),if_neg h1]
   obtain ⟨n,hn,rfl⟩:=sX hc
   have hw:IntKind.wrap .i64 (2+IntKind.wrap .i64 (n:Int))=((2+n:Nat):Int):=by rw [yX (by omega),yN (by omega) (by omega)]; omega
   rw [hw]
   by_cases h2:(n:Int)>28
   ·rw [xB (by simpa using h2),bnd_some,cond_true,if_pos (.inl h2)]
    rfl
   ·rw [yP (by simpa using h2),bnd_some]
    by_cases h3:(r.length:Int)<(n:Int)
    ·rw [xB (by simp only [List.length_cons,decide_eq_true_eq]; omega),if_pos (.inr h3)]
     rfl
    ·rw [yP (by simp only [List.length_cons,decide_eq_false_iff_not]; omega),bnd_some,if_neg (by omega)]
     have hs:Go.Proofs.YtplchdlgdjcojaaGreatDoor.sub (k::(n:Int)::r) 2 ((2+n:Nat):Int)=some (r.take n):=by
      have:=zEK (l:=k::(n:Int)::r) (a:=2) (b:=2+n) (by omega) (by simp; omega)
      rw [Nat.add_sub_cancel_left] at this
      exact this
     rw [hs,bnd_some,kK (by simp; omega),bnd_some]
     rfl
def lS:Nat→List Int→Option (List zF × Nat)
 | 0,_=>some ([],0)
 | c+1,b=>match zDs b with
  | none=>none
  | some (x,n)=>match lS c (b.drop n) with
   | none=>none
   | some (l,m)=>some (x::l,n+m)
theorem zDq:∀ (c:Nat) {b:List Int} {l:List zF} {n:Nat},rng b→lS c b=some (l,n)→n≤b.length∧l.length=c
 | 0,b,l,n,_,h=>by injection h with h; injection h with h1 h2; subst h1; subst h2; simp
 | c+1,b,l,n,hr,h=>by
  unfold lS at h
  split at h
  ·cases h
  ·rename_i x k hk
   split at h
   ·cases h
   ·rename_i l' m hm
    injection h with h; injection h with h1 h2
    subst h1; subst h2
    have h3:=zCj hr hk
    have h4:=zDq c (hr.drop k) hm
    simp only [List.length_drop,List.length_cons] at*
    omega
def rX:List Int→Option (List zF × Nat)
 | []=>none
 | c::r=>if c<1∨c>32 then none else match lS c.toNat r with
  | none=>none
  | some (l,n)=>if r[n]? =some 0 then some (l,n+2) else none
theorem qV (c:Int) (r:List Int):rX (c::r)=if c<1∨c>32 then none else match lS c.toNat r with
  | none=>none
  | some (l,n)=>if r[n]? =some 0 then some (l,n+2) else none:=rfl
theorem oP {b:List Int} {l:List zF} {n:Nat} (hr:rng b) (h:rX b=some (l,n)):2≤n∧n≤b.length:=by
 match b,h with
 | c::r,h=>
  rw [qV] at h
  split at h
  ·cases h
  ·split at h
   ·cases h
   ·rename_i l' m hm
    split at h
    ·rename_i h0
     injection h with h; injection h with _ h; subst h
     have:=(List.getElem?_eq_some_iff.1 h0).1
     simp only [List.length_cons]
     omega
    ·cases h
def zFn (o:Option (List zF × Nat)):List zF × Int × Bool:=match o with | some (l,n)=>(l,(n:Int),true) | none=>([],0,false)
noncomputable def dW (b_p0:List Int) (x2:Int):List zF × Int × Int→Option (rG (List zF × Int × Int) (((List zF) × Int × Bool) ⊕ (List zF × Int))):=
 (fun (s1:List zF × Int × Int)=>bif decide (s1.2.2<x2) then (bnd (Go.Proofs.YtplchdlgdjcojaaGreatDoor.sub b_p0 s1.2.1 (b_p0.length:Int)) fun l1=>bnd (rM l1) fun r1=>bif !r1.2.2 then (some (.done (.inl ([],0,false)))) else (bnd (app 40 s1.1 [r1.1]) fun l2=>some (.next (l2,IntKind.wrap .i64 (s1.2.1+r1.2.1),IntKind.wrap .u8 (s1.2.2+1))))) else (some (.done (.inr (s1.1,s1.2.1)))))
theorem zGx {b:List Int} (hr:rng b) (hl:b.length≤16384) (c:Nat) (hc:c≤32):∀ (k i at_:Nat) (acc:List zF),i+k=c→at_≤b.length→acc.length≤i→
  yG (dW b (c:Int)) (acc,(at_:Int),(i:Int))=some (match lS k (b.drop at_) with | none=>.inl ([],0,false) | some (l,n)=>.inr (acc++l,((at_+n:Nat):Int)))
 | 0,i,at_,acc,h,_,_=>by
  refine xR ?_
  unfold dW
  simp only
  rw [yP (by simp; omega)]
  simp [lS]
 | k+1,i,at_,acc,h,hat,hacc=>by
  have hsub:Go.Proofs.YtplchdlgdjcojaaGreatDoor.sub b (at_:Int) (b.length:Int)=some (b.drop at_):=by
   rw [zEK hat (Nat.le_refl _)]
   congr 1
   rw [List.take_of_length_le (by simp)]
  have hstep:dW b (c:Int) (acc,(at_:Int),(i:Int))=some (match zDs (b.drop at_) with | none=>.done (.inl ([],0,false)) | some (x,n)=>.next (acc++ [x],((at_+n:Nat):Int),((i+1:Nat):Int))):=by
   unfold dW
   simp only
   rw [xB (by simp; omega),hsub,bnd_some,zPb (hr.drop _) (by simp; omega),bnd_some]
   cases hcg:zDs (b.drop at_) with
   | none=>rfl
   | some p=>
    obtain ⟨x,n⟩:=p
    have hn:=zCj (hr.drop _) hcg
    simp only [List.length_drop] at hn
    simp only [zRV,Bool.not_true,cond_false]
    rw [uQ (by simp; omega) (by simp; omega),bnd_some,yN (by omega) (by omega),zAC (by omega) (by omega)]
    rfl
  unfold lS
  cases hcg:zDs (b.drop at_) with
  | none=>rw [hcg] at hstep; exact xR hstep
  | some p=>
   obtain ⟨x,n⟩:=p
   have hn:=zCj (hr.drop _) hcg
   simp only [List.length_drop] at hn
   rw [hcg] at hstep
   refine tN hstep ?_
   rw [zGx hr hl c hc k (i+1) (at_+n) (acc++ [x]) (by omega) (by omega) (by simp; omega)]
   simp only [List.drop_drop]
   cases hcs:lS k (b.drop (at_+n)) with
   | none=>rfl
   | some q=>
    obtain ⟨l,m⟩:=q
    simp only [List.append_assoc,List.singleton_append]
    rw [Nat.add_assoc]
theorem zQP {b:List Int} (hr:rng b) (hl:b.length≤16384):qO b=some (zFn (rX b)):=by
  unfold qO
  match b,hr,hl with
  | [],_,_=>rfl
  | c::r,hr,hl=>
    have hc:=hr c (by simp)
    have e0:elt (c::r) 0=some c:=rfl
    have hr':rng r:=fun x hx=>hr x (by simp [hx])
    simp only [List.length_cons] at hl
    rw [yP (by simp only [List.length_cons,beq_eq_false_iff_ne,ne_eq]; omega),e0,bnd_some,qV]
    by_cases h1:c<1
    · rw [xB (by simpa using h1), bnd_some, cond_true, if_pos (.inl h1)]
      rfl
    · rw [yP (by simpa using h1), bnd_some]
      by_cases h2:c>32
      · rw [xB (by simpa using h2), if_pos (.inr h2)]
        rfl
      · rw [yP (by simpa using h2), bnd_some, if_neg (by omega)]
        obtain ⟨n,hn,rfl⟩:=sX hc
        have hlp:=zGx hr (by simp; omega) n (by omega) n 0 1 [] (by omega) (by simp) (by simp)
        unfold dW at hlp
        refine yD hlp ?_
        have e2:((n:Int)).toNat=n:=rfl
        rw [List.drop_succ_cons,List.drop_zero,e2]
        cases hcs:lS n r with
        | none=>rfl
        | some q=>
          obtain ⟨l,m⟩:=q
          have hm:=(zDq n hr' hcs).1
          simp only [List.nil_append,retOr_inr,List.length_cons]
          by_cases h3:1+m=r.length+1
          · rw [xB (by simp; omega), bnd_some, cond_true, if_neg (by rw [List.getElem?_eq_none (by omega)]; simp)]
            rfl
          · have hmr : m < r.length := by omega
            have e3:elt ((n:Int)::r) ((1+m:Nat):Int)=some r[m]:=by
              rw [elt_nat,Nat.add_comm,List.getElem?_cons_succ,List.getElem?_eq_getElem hmr]
            rw [yP (by simp; omega),e3,bnd_some,bnd_some,List.getElem?_eq_getElem hmr]
            by_cases h4:r[m]=0
            · rw [yP (by simpa using h4), if_pos (by rw [h4]), yN (by omega) (by omega)]
              simp only [zFn]
              congr 3
              omega
            · rw [xB (by simpa using h4), if_neg (by simpa using h4)]
              rfl
def eS (x:zF):List Int:=if x.Delete then [x.Key,128] else x.Key::IntKind.wrap .u8 (x.Value.length:Int)::x.Value
def wC (l:List zF):List Int:=IntKind.wrap .u8 (l.length:Int)::l.flatMap eS++ [0]
theorem zKZ (x:zF):2≤(eS x).length∧(eS x).length≤2+x.Value.length:=by
 unfold eS
 split
 ·simp
 ·simp only [List.length_cons]
  omega
theorem zTR {l:List zF} (h:∀ x∈l,x.Value.length≤1000):(l.flatMap eS).length≤l.length*1002:=by
 induction l with
 | nil=>simp
 | cons x r ih=>
  have h1:=(zKZ x).2
  have h2:=h x (by simp)
  have h3:=ih fun y hy=>h y (by simp [hy])
  simp only [List.flatMap_cons,List.length_append,List.length_cons]
  omega
theorem zHT {l:List zF} (hl:l.length≤1000) (hv:∀ x∈l,x.Value.length≤1000):rN l=some (wC l):=by
 unfold rN
 have hb:∀ i,i≤l.length→(IntKind.wrap .u8 (l.length:Int)::(l.take i).flatMap eS).length≤1+i*1002:=fun i hi=>by
  have:=zTR (l:=l.take i) fun x hx=>hv x (List.mem_of_mem_take hx)
  simp only [List.length_take,List.length_cons] at*
  rw [Nat.min_eq_left hi] at this
  omega
 refine xS (fun i=>(IntKind.wrap .u8 (l.length:Int)::(l.take i).flatMap eS,(i:Int))) l.length (IntKind.wrap .u8 (l.length:Int)::l.flatMap eS) rfl (fun i hi=>?_) ?_ ?_
 ·have h1:=hb i (by omega)
  have h2:=hv l[i] (List.getElem_mem hi)
  have h3:i*1002≤1000*1002:=Nat.mul_le_mul_right _ (by omega)
  simp only
  rw [xB (by simp; omega),yR hi,bnd_some,yY hi,List.flatMap_append]
  simp only [List.flatMap_cons,List.flatMap_nil,List.append_nil]
  have hE:∀ (z:List Int),(IntKind.wrap .u8 (l.length:Int)::((l.take i).flatMap eS++z))=(IntKind.wrap .u8 (l.length:Int)::(l.take i).flatMap eS)++z:=fun z=>rfl
  rw [hE]
  generalize hpre:IntKind.wrap .u8 (l.length:Int)::(l.take i).flatMap eS=pre at h1 ⊢
  unfold eS
  cases hd:l[i].Delete
  ·simp only [cond_false]
   rw [uQ (by simp; omega) (by simp; omega),bnd_some,uQ (by simp; omega) (by simp; omega),bnd_some,zQ hi (by omega)]
   simp
  ·simp only [cond_true]
   rw [uQ (by simp; omega) (by simp; omega),bnd_some,zQ hi (by omega)]
   simp
 ·simp only
  rw [yP (by simp),List.take_length]
 ·have h1:=hb l.length (Nat.le_refl _)
  rw [List.take_length] at h1
  have h3:l.length*1002≤1000*1002:=Nat.mul_le_mul_right _ hl
  rw [uQ (by simp only [List.length_cons,List.length_nil] at*; omega) (by simp only [List.length_cons,List.length_nil] at*; omega),bnd_some]
  rfl
def rD (b:List Int):Bool:=b.all fun x=>x==255
theorem zJR {b:List Int} (hl:b.length≤16384):qP b=some (rD b):=by
 unfold qP wX vQ
 have hf:∀ i (h:i<b.length),(fun i:Nat=>if (b.getD i 255 != 255) then some (.inl (i:Int):Int ⊕ Unit) else none) i=if (fun x:Int=>x != 255) b[i] then some ((fun (i:Nat) (_:Int)=>(.inl (i:Int):Int ⊕ Unit)) i b[i]) else none:=fun i h=>by
  simp only [List.getD_eq_getElem?_getD,List.getElem?_eq_getElem h,Option.getD_some]
 have hL:=zCW (m:=fun (s1:Int)=>bif decide (s1<(b.length:Int)) then (bnd (elt b s1) fun x1=>bnd (sO x1) fun r1=>bif r1 then (some (.done (.inl s1:Int ⊕ Unit))) else (some (.next (IntKind.wrap .i64 (s1+1))))) else (some (.done (.inr ())))) (fun i=>(i:Int)) b.length (fun i=>if (b.getD i 255 != 255) then some (.inl (i:Int):Int ⊕ Unit) else none) (t:=.inr ()) (fun i hi=>?_) ?_
 ·have h0:((0:Nat):Int)=0:=rfl
  rw [h0] at hL
  rw [hL,bnd_some]
  rcases bG b (fun x=>x != 255) (fun i _=>(.inl (i:Int):Int ⊕ Unit)) _ hf with ⟨i,hi,h1,_,h3⟩ | ⟨_,h2,h3⟩
  ·rw [h3]
   simp only [Option.getD_some,retOr_inl,bnd_some]
   congr 1
   have:rD b=false:=by
    unfold rD
    rw [List.all_eq_false]
    exact ⟨b[i],List.getElem_mem hi,by simpa using h1⟩
   rw [this]
   simp
  ·rw [h3]
   simp only [Option.getD_none,retOr_inr,bnd_some]
   congr 1
   have:rD b=true:=by
    unfold rD
    rw [List.all_eq_true]
    intro x hx
    simpa using h2 x hx
   rw [this]
   rfl
 ·rw [xB (by simp; omega),yR hi,bnd_some]
  unfold sO
  rw [bnd_some,List.getD_eq_getElem?_getD,List.getElem?_eq_getElem hi]
  simp only [Option.getD_some]
  by_cases hb:b[i]=255
  ·rw [yP (by simpa using hb),zQ hi (by omega),if_neg (by simpa using hb)]
  ·rw [xB (by simpa using hb),if_pos (by simpa using hb)]
 ·rw [yP (by simp)]
theorem bE {b:List Int}:rD b=true↔b=List.replicate b.length 255:=by
 unfold rD
 rw [List.all_eq_true,List.eq_replicate_iff]
 simp
end Go.Proofs.YtplchdlgdjcojaaGreatDoor
end
