/-
  Texts of this seat, put together: rules, walks, plain laws.
  Conditions: none.
-/
import Derived.Test.YtplchdlgdjcojaaGreatDoorPF4
section
namespace Go.Proofs.YtplchdlgdjcojaaGreatDoor
open Go
set_option linter.unusedVariables false
set_option maxHeartbeats 4000000
set_option maxRecDepth 4000
theorem yN {c_p0 n_p1 A1 c1 gb1 r} (h:yK c_p0 n_p1=some r):
    Fun Tryz.prog 31 [.pointer (some ⟨gb1,0,none⟩), .int .i64 n_p1] [.ro (SlL eu8 A1 c1 c_p0.L), .res (Box gb1 127 [.slice A1 c_p0.L.length c1, .int .i64 c_p0.At])] (fun v F=>∃ A2 c2,v= .int .i64 r.2∧F= [.ro (SlL eu8 A2 c2 r.1.L), .res (Box gb1 127 [.slice A2 r.1.L.length c2, .int .i64 r.1.At])]):=by
 refine Fun.intro Tryz.func31 rfl rfl rfl fun w R=>?_;refine .ab [0,1] rfl<|.seq<|.seq<|.bd h fun o1 hj1 h=>.cu 0 [0,1, .s 12 (.bool o1)] [] rfl rfl ?_ ?_
 ·refine .region<|.p rfl rfl<|.bd hj1 fun r1 hr1 hj1=>.cq 2 [1] [1] 0 (gK hr1) zUE rfl<|.n 2 rfl<|.gs 9 hj1 rfl (fun hj1=>?_) (fun hj1=>?_)
  ·cases hj1;exact .be rfl<|.hU rfl (zl [1] 0 rfl)
  cases hj1;exact .be rfl<|.hU rfl (zl [1] 0 rfl)
 refine .cb h rfl (fun h=>?_) (fun h=>?_)
 ·refine .ab [4] rfl ?_;cases h;exact .rv rfl rfl ⟨A1,c1,rfl,rfl⟩ (zk 2 1 [1] [1] 0 rfl)
 refine .sk<|.pr [0,1] rfl<|.seq<|.regionF mixed (by kernel_rfl)<|.n 3 rfl<|.lb 0 1 rfl<|.n 3 rfl<|.lb 1 1 rfl<|.bd h fun x1 hx1 h=>.ix1 hx1 0 rfl fun b1 ob1=>.ld ob1 0 0 rfl<|.beq rfl<|.pf [0,1,5] [] 1 rfl rfl<|.a 3 rfl<|.lb 1 1 rfl<|.n 3 rfl<|.sb 1 1 rfl<|.b [0,1,5] rfl<|.seq<|.seq<|.bd h fun o2 hj2 h=>.cu 0 [0,1,5, .s 36 (.bool o2)] [] rfl rfl ?_ ?_
 ·refine .region<|.n 3 rfl<|.gs 33 hj2 rfl (fun hj2=>?_) (fun hj2=>?_)
  ·refine .n 1 rfl<|.gOn rfl rfl<|.bd hj2 fun r2 hr2 hj2=>.cq 2 [1] [] 0 (gK hr2) zUE rfl ?_;cases hj2;exact .be rfl<|.hU rfl zw
  cases hj2;exact .be rfl<|.hU rfl zw
 refine .cb h rfl (fun h=>?_) (fun h=>?_)
 ·refine .seq<|.regionF mixed (by kernel_rfl)<|.n 4 rfl<|.lb 0 0 rfl<|.n 3 rfl<|.lb 1 0 rfl<|.bd h fun x2 hx2 h=>.ix1 hx2 1 rfl fun b2 ob2=>.ld ob2 0 0 rfl<|.beq rfl<|.pf [0,1,5] [] 1 rfl rfl<|.region<|.n 3 rfl<|.lb 1 0 rfl<|.n 3 rfl<|.sb 1 0 rfl<|.b [1,5] rfl<|.a 2 rfl<|.bd h fun q1 hq1 h=>.rem rfl rfl rfl hq1<|.b [4] rfl ?_;cases h;exact .rv rfl rfl ⟨A1,c1,rfl,rfl⟩ (zk 2 1 [1] [] 0 rfl)
 refine .sk<|.pr [1,5] rfl<|.a 2 rfl<|.bd h fun q2 hq2 h=>.rem rfl rfl rfl hq2<|.b [4] rfl ?_;cases h;exact .rv rfl rfl ⟨A1,c1,rfl,rfl⟩ (zk 2 1 [1] [] 0 rfl)
theorem zMt:Ent Tryz.prog 216:=en Tryz.func216 (by kernel_rfl)
noncomputable def nD (s_p0:ByteArray):Option Bool:=
 bnd ((bif decide ((s_p0.size:Int)<1) then (some true) else (bif decide ((s_p0.size:Int)>16) then (some true) else (bnd (eltS s_p0 0) fun y1=>bif decide (y1<97) then (some true) else (some (decide (y1>122))))):Option Bool)) fun o1=>bif o1 then (some false) else (bnd (yE (τ:=Bool ⊕ Unit) (fun (s1:Int)=>bif decide (s1<(s_p0.size:Int)) then (bnd ((bnd (eltS s_p0 s1) fun y2=>bif decide (y2≥97) then (bif decide (y2≤122) then (some false) else (bif decide (y2≥48) then (bif decide (y2≤57) then (some false) else (some (!(y2==45)))) else (some (!(y2==45))))) else (bif decide (y2≥48) then (bif decide (y2≤57) then (some false) else (some (!(y2==45)))) else (some (!(y2==45)))):Option Bool)) fun o4=>bif o4 then (some (.done (.inl false))) else (some (.next (IntKind.wrap .i64 (s1+1))))) else (some (.done (.inr ())))) 0) fun o2=>wR o2 fun o3=>some true)
theorem bB {s_p0 r} (h:nD s_p0=some r):
    Fun Tryz.prog 216 [.string s_p0] [] (Val (.bool r)):=by
 refine Fun.intro Tryz.func216 rfl rfl rfl fun w R=>?_;refine .ab [0] rfl<|.seq<|.seq<|.bd h fun o1 hj1 h=>.cu 0 [0, .s 21 (.bool o1)] [] rfl rfl ?_ ?_
 ·refine .region<|.n 4 rfl<|.gs 7 hj1 rfl (fun hj1=>?_) (fun hj1=>?_)
  ·cases hj1;exact .be rfl<|.hU rfl zw
  refine .n 5 rfl<|.gs 12 hj1 rfl (fun hj1=>?_) (fun hj1=>?_)
  ·cases hj1;exact .be rfl<|.hU rfl zw
  refine .n 1 rfl<|.gOn rfl rfl<|.bd hj1 fun y1 hy1 hj1=>.eltS rfl rfl rfl rfl rfl hy1<|.n 3 rfl<|.gs 17 hj1 rfl (fun hj1=>?_) (fun hj1=>?_)
  ·cases hj1;exact .be rfl<|.hU rfl zw
  refine .n 1 rfl<|.gOn rfl rfl<|.eltS rfl rfl rfl rfl rfl hy1 ?_;cases hj1;exact .be rfl<|.hU rfl zw
 refine .cb h rfl (fun h=>?_) (fun h=>?_)
 ·refine .ab [2] rfl ?_;cases h;exact .rv rfl rfl ⟨rfl,rfl⟩ zw
 refine .sk<|.pr [0] rfl<|.seq<|.ae rfl<|.bd h fun o2 hl1 h=>.cutJ 0 (fun (o3:Unit) (e3:Unit)=>[]) (fun o3 e3=>[]) rfl rfl (fun o3=>o2= .inr o3) ?_ ?_
 ·refine .block<|.loopQ hl1 0 (fun (s1:Int) (e2:Unit)=>[0, .s 3 (.int .i64 s1)]) (fun s1 e2=>[]) rfl rfl () (zb rfl) (fun _ w=>w) ?_;rintro s1 e2 st1 hm1 hd1 h1;refine .seq<|.ab [0,3,25] rfl<|.cb h1 rfl (fun h1=>?_) (fun h1=>?_)
  ·refine .sk<|.pr [0,3] rfl<|.seq<|.block<|.seq<|.bd h1 fun o4 hj2 h1=>.cu 0 [0,3, .s 56 (.bool o4)] [] rfl rfl ?_ ?_
   ·refine .region<|.n 2 rfl<|.bd hj2 fun y2 hy2 hj2=>.eltS rfl rfl rfl rfl rfl hy2<|.n 2 rfl<|.gs 32 hj2 rfl (fun hj2=>?_) (fun hj2=>?_)
    ·refine .n 2 rfl<|.gOn rfl rfl<|.eltS rfl rfl rfl rfl rfl hy2<|.n 3 rfl<|.gs 38 hj2 rfl (fun hj2=>?_) (fun hj2=>?_)
     ·cases hj2;exact .be rfl<|.hU rfl zw
     refine .n 2 rfl<|.gOn rfl rfl<|.eltS rfl rfl rfl rfl rfl hy2<|.n 2 rfl<|.gs 43 hj2 rfl (fun hj2=>?_) (fun hj2=>?_)
     ·refine .n 2 rfl<|.gOn rfl rfl<|.eltS rfl rfl rfl rfl rfl hy2<|.n 4 rfl<|.gs 50 hj2 rfl (fun hj2=>?_) (fun hj2=>?_)
      ·cases hj2;exact .be rfl<|.hU rfl zw
      refine .n 2 rfl<|.gOn rfl rfl<|.eltS rfl rfl rfl rfl rfl hy2 ?_;cases hj2;exact .be rfl<|.hU rfl zw
     refine .n 9 rfl<|.gOn rfl rfl<|.eltS rfl rfl rfl rfl rfl hy2 ?_;cases hj2;exact .be rfl<|.hU rfl zw
    refine .n 8 rfl<|.gOn rfl rfl<|.eltS rfl rfl rfl rfl rfl hy2<|.n 2 rfl<|.gs 43 hj2 rfl (fun hj2=>?_) (fun hj2=>?_)
    ·refine .n 2 rfl<|.gOn rfl rfl<|.eltS rfl rfl rfl rfl rfl hy2<|.n 4 rfl<|.gs 50 hj2 rfl (fun hj2=>?_) (fun hj2=>?_)
     ·cases hj2;exact .be rfl<|.hU rfl zw
     refine .n 2 rfl<|.gOn rfl rfl<|.eltS rfl rfl rfl rfl rfl hy2 ?_;cases hj2;exact .be rfl<|.hU rfl zw
    refine .n 9 rfl<|.gOn rfl rfl<|.eltS rfl rfl rfl rfl rfl hy2 ?_;cases hj2;exact .be rfl<|.hU rfl zw
   refine .cb h1 rfl (fun h1=>?_) (fun h1=>?_)
   ·refine .ab [2] rfl ?_;cases h1;cases hd1 _ rfl
    have h:some _=some _:=h;cases h;exact .rv rfl rfl ⟨rfl,rfl⟩ zw
   refine .skip<|.blkN<|.thenN<|.pr [0,3] rfl<|.region ?_;cases h1;exact .be rfl<|.ag () hm1 rfl zw
  refine .xq rfl ?_;cases h1;cases hd1 _ rfl
  exact .thenN<|.hereI () () rfl trivial zw
 rintro o3 e3 ho;subst ho;have h:=unR h;refine .ae rfl ?_;cases h;exact .rv rfl rfl ⟨rfl,rfl⟩ zw
theorem zMz:Ent Tryz.prog 217:=en Tryz.func217 (by kernel_rfl)
noncomputable def pT (v_p0:zJ):Option Bool:=
 bnd ((bif decide (v_p0.Major≥0) then (bif decide (v_p0.Major≤999) then (bif decide (v_p0.Minor≥0) then (bif decide (v_p0.Minor≤999) then (bif decide (v_p0.Patch≥0) then (some (decide (v_p0.Patch≤999))) else (some false)) else (some false)) else (some false)) else (some false)) else (some false):Option Bool)) fun o1=>some o1
theorem eI {v_p0 r} (h:pT v_p0=some r):
    Fun Tryz.prog 217 [.agg #[.int .i64 v_p0.Major, .int .i64 v_p0.Minor, .int .i64 v_p0.Patch]] [] (Val (.bool r)):=by
 refine Fun.intro Tryz.func217 rfl rfl rfl fun w R=>?_;refine .seq<|.region<|.box rfl rfl fun g1=>.b [1] rfl<|.seq<|.bd h fun o1 hj1 h=>.cu 1 [.s 2 (.bool o1)] [] rfl rfl ?_ ?_
 ·refine .region<|.p rfl rfl<|.lb 0 0 rfl<|.n 2 rfl<|.gs 6 hj1 rfl (fun hj1=>?_) (fun hj1=>?_)
  ·refine .n 1 rfl<|.gOn rfl rfl<|.lb 0 0 rfl<|.n 3 rfl<|.gs 11 hj1 rfl (fun hj1=>?_) (fun hj1=>?_)
   ·refine .n 1 rfl<|.gOn rfl rfl<|.lb 1 0 rfl<|.n 3 rfl<|.gs 16 hj1 rfl (fun hj1=>?_) (fun hj1=>?_)
    ·refine .n 1 rfl<|.gOn rfl rfl<|.lb 1 0 rfl<|.n 3 rfl<|.gs 21 hj1 rfl (fun hj1=>?_) (fun hj1=>?_)
     ·refine .n 1 rfl<|.gOn rfl rfl<|.lb 2 0 rfl<|.n 3 rfl<|.gs 26 hj1 rfl (fun hj1=>?_) (fun hj1=>?_)
      ·refine .n 1 rfl<|.gOn rfl rfl<|.lb 2 0 rfl ?_;cases hj1;exact .be rfl<|.hU rfl (zl [] 1 rfl)
      cases hj1;exact .be rfl<|.hU rfl (zl [] 1 rfl)
     cases hj1;exact .be rfl<|.hU rfl (zl [] 1 rfl)
    cases hj1;exact .be rfl<|.hU rfl (zl [] 1 rfl)
   cases hj1;exact .be rfl<|.hU rfl (zl [] 1 rfl)
  cases hj1;exact .be rfl<|.hU rfl (zl [] 1 rfl)
 cases h;exact .rv rfl rfl ⟨rfl,rfl⟩ zw
theorem zLY:Ent Tryz.prog 134:=en Tryz.func134 (by kernel_rfl)
noncomputable def pV (i_p0:zI):Option Bool:=
 bnd ((bnd (nD i_p0.Name) fun r1=>bif r1 then (bnd (pT i_p0.Version) fun r2=>bif r2 then (bif decide ((i_p0.Data.length:Int)≥1) then (some (decide ((i_p0.Data.length:Int)≤512))) else (some false)) else (some false)) else (some false):Option Bool)) fun o1=>some o1
theorem eF {i_p0 A1 c1 r} (h:pV i_p0=some r):
    Fun Tryz.prog 134 [.agg (xC i_p0 A1 c1).toArray] [.ro (SlL eu8 A1 c1 i_p0.Data)] (Val (.bool r)):=by
 refine Fun.intro Tryz.func134 rfl rfl rfl fun w R=>?_;refine .seq<|.region<|.box rfl rfl fun g1=>.b [1] rfl<|.seq<|.bd h fun o1 hj1 h=>.cu 2 [.s 2 (.bool o1)] [] rfl rfl ?_ ?_
 ·refine .region<|.p rfl rfl<|.lb 0 0 rfl<|.bd hj1 fun r1 hr1 hj1=>.cv [] (bB hr1) zMt rfl<|.p rfl rfl<|.gs 6 hj1 rfl (fun hj1=>?_) (fun hj1=>?_)
  ·refine .n 1 rfl<|.gOn rfl rfl<|.lb 1 0 rfl<|.gOn rfl rfl<|.bd hj1 fun r2 hr2 hj1=>.cv [] (eI hr2) zMz rfl<|.n 2 rfl<|.gs 11 hj1 rfl (fun hj1=>?_) (fun hj1=>?_)
   ·refine .n 1 rfl<|.gOn rfl rfl<|.lb 4 0 rfl<|.n 4 rfl<|.gs 17 hj1 rfl (fun hj1=>?_) (fun hj1=>?_)
    ·refine .n 1 rfl<|.gOn rfl rfl<|.lb 4 0 rfl ?_;cases hj1;exact .be rfl<|.hU rfl (zl [] 2 rfl)
    cases hj1;exact .be rfl<|.hU rfl (zl [] 2 rfl)
   cases hj1;exact .be rfl<|.hU rfl (zl [] 2 rfl)
  cases hj1;exact .be rfl<|.hU rfl (zl [] 2 rfl)
 cases h;exact .rv rfl rfl ⟨rfl,rfl⟩ zw
theorem zUI:Ent Tryz.prog 135:=en Tryz.func135 (by kernel_rfl)
noncomputable def jI (i_p0:zI):Option zI:=
 bnd (app 1 ([]) i_p0.Data) fun l1=>some (⟨i_p0.Name,i_p0.Version,l1⟩:zI)
theorem zGB {i_p0 A1 c1 r} (h:jI i_p0=some r):
    Fun Tryz.prog 135 [.agg (xC i_p0 A1 c1).toArray] [.ro (SlL eu8 A1 c1 i_p0.Data)] (fun v F=>∃ A2 c2,v= .agg (xC r A2 c2).toArray∧F= [.ro (SlL eu8 A2 c2 r.Data)]):=by
 refine Fun.intro Tryz.func135 rfl rfl rfl fun w R=>?_;refine .seq<|.region<|.box rfl rfl fun g1=>.alloc rfl rfl fun g2=>.b [1,2] rfl<|.a 1 rfl<|.lb 4 1 rfl<|.asrt (fun _ w=>w.nilL eu8 5)<|.bd h fun l1 hl1 h=>.app (E:=eu8) hl1 rfl rfl rfl .z rfl rfl rfl rfl rfl rfl rfl rfl (iB (.tail _ (.tail _ (.tail _ (.head _))))) rfl rfl fun A2 c2=>.p rfl rfl<|.sb 4 2 rfl<|.bf [1,2] [0,0,0] 1 rfl rfl<|.seq<|.region<|.lb 0 0 rfl<|.sb 0 2 rfl<|.bf [2] [0] 1 rfl rfl<|.asrt (fun _ w=>(w.sl [1] 0 rfl).meltL) ?_;cases h;exact .rt rfl Tryz.results135 (.cell rfl (.tail _ (.head _)) rfl .nil) rfl ⟨A2,c2,rfl,rfl⟩ (zk 1 2 [0] [] 0 rfl)
theorem zNi:Ent Tryz.prog 152:=en Tryz.func152 (by kernel_rfl)
noncomputable def pC (s_p0:ByteArray):Option (List Int):=
 bnd (app 1 ([IntKind.wrap .u8 (s_p0.size:Int)]) (nI s_p0)) fun l1=>some l1
theorem cM {s_p0 r} (h:pC s_p0=some r):
    Fun Tryz.prog 152 [.string s_p0] [] (fun v F=>∃ A1 c1,v= .slice A1 r.length c1∧F= [.res (zL eu8 5 A1 c1 r)]):=by
 refine Fun.intro Tryz.func152 rfl rfl rfl fun w R=>?_;refine .ab [0] rfl<|.a 3 rfl<|.bS rfl fun g1=>.p rfl rfl<|.asrt (fun _ w=>w.litL (E:=eu8) (e:=5) [IntKind.wrap .u8 (s_p0.size:Int)] rfl rfl)<|.bd h fun l1 hl1 h=>.app (E:=eu8) hl1 rfl rfl rfl .z rfl rfl rfl rfl rfl rfl rfl (by simp [nI,ByteArray.toList_eq]) (zWJ s_p0) rfl rfl fun A1 c1=>.b [2] rfl ?_;cases h;exact .rv rfl rfl ⟨A1,c1,rfl,rfl⟩ zw
theorem zIz:Ent Tryz.prog 228:=en Tryz.func228 (by kernel_rfl)
noncomputable def qT (n_p0:Int):Option (List Int):=
 some ([IntKind.wrap .u8 (uA .i64 n_p0 8),IntKind.wrap .u8 n_p0])
theorem fX {n_p0 r} (h:qT n_p0=some r):
    Fun Tryz.prog 228 [.int .i64 n_p0] [] (fun v F=>∃ A1 c1,v= .slice A1 r.length c1∧F= [.res (zL eu8 5 A1 c1 r)]):=by
 unfold qT at h
 refine Fun.intro Tryz.func228 rfl rfl rfl fun w R=>?_;refine .ab [0] rfl<|.a 5 rfl<|.bS rfl fun g1=>.b [2] rfl<|.asrt (fun _ w=>w.litL (E:=eu8) (e:=5) [IntKind.wrap .u8 (uA .i64 n_p0 8),IntKind.wrap .u8 n_p0] rfl rfl) ?_;cases h;exact .rv rfl rfl ⟨(some ⟨g1,0,none⟩),([IntKind.wrap .u8 (uA .i64 n_p0 8),IntKind.wrap .u8 n_p0]:List Int).length,rfl,rfl⟩ zw
theorem zMf:Ent Tryz.prog 153:=en Tryz.func153 (by kernel_rfl)
noncomputable def uI (v_p0:zJ):Option (List Int):=
 bnd (qT v_p0.Major) fun r1=>bnd (qT v_p0.Minor) fun r2=>bnd (app 1 r1 r2) fun l1=>bnd (qT v_p0.Patch) fun r3=>bnd (app 1 l1 r3) fun l2=>some l2
theorem iC {v_p0 r} (h:uI v_p0=some r):
    Fun Tryz.prog 153 [.agg #[.int .i64 v_p0.Major, .int .i64 v_p0.Minor, .int .i64 v_p0.Patch]] [] (fun v F=>∃ A1 c1,v= .slice A1 r.length c1∧F= [.res (zL eu8 5 A1 c1 r)]):=by
 unfold uI at h
 refine Fun.intro Tryz.func153 rfl rfl rfl fun w R=>?_;refine .seq<|.region<|.box rfl rfl fun g1=>.b [1] rfl<|.seq<|.regionX (iN [0,5,12,16,28,32,11,23,27,39,43,44] .nil) _ mixed (by kernel_rfl) zw<|.yn 1 rfl<|.yx 0 0 rfl<|.yn 1 rfl<|.yl 1 0 rfl<|.yn 1 rfl<|.yl 2 0 rfl<|.xef<|.bd h fun r1 hr1 h=>.cr 2 [] [] 0 (fX hr1) zIz rfl fun A1 c1=>.xk (zl [] 1 rfl)<|.xef<|.bd h fun r2 hr2 h=>.cr 3 [] [] 0 (fX hr2) zIz rfl fun A2 c2=>.xk (zl [] 2 rfl)<|.xef<|.asrt (fun _ w=>w.meltL)<|.bd h fun l1 hl1 h=>.app (E:=eu8) hl1 rfl rfl rfl (.s .z) rfl rfl rfl rfl rfl rfl rfl rfl (iB (.head _)) rfl rfl fun A3 c3=>.xk (zl [] 2 rfl)<|.xef<|.bd h fun r3 hr3 h=>.cr 4 [] [] 0 (fX hr3) zIz rfl fun A4 c4=>.xk (zl [] 3 rfl)<|.xef<|.asrt (fun _ w=>w.meltL)<|.bd h fun l2 hl2 h=>.app (E:=eu8) hl2 rfl rfl rfl (.s .z) rfl rfl rfl rfl rfl rfl rfl rfl (iB (.head _)) rfl rfl fun A5 c5=>.xk (zl [] 3 rfl)<|.yn 1 rfl<|.xdone<|.thenN<|.pf [2] [0] 3 rfl rfl ?_;cases h;exact .rv rfl rfl ⟨A5,c5,rfl,rfl⟩ zw
theorem zRj:Ent Tryz.prog 150:=en Tryz.func150 (by kernel_rfl)
noncomputable def pW (i_p0:zI):Option (List Int):=
 bnd (pC i_p0.Name) fun r1=>bnd (uI i_p0.Version) fun r2=>bnd (app 1 r1 r2) fun l1=>bnd (qT (i_p0.Data.length:Int)) fun r3=>bnd (app 1 l1 r3) fun l2=>bnd (app 1 l2 i_p0.Data) fun l3=>some l3
theorem zAT {i_p0 A1 c1 r} (h:pW i_p0=some r):
    Fun Tryz.prog 150 [.agg (xC i_p0 A1 c1).toArray] [.ro (SlL eu8 A1 c1 i_p0.Data)] (fun v F=>∃ A2 c2,v= .slice A2 r.length c2∧F= [.res (zL eu8 5 A2 c2 r)]):=by
 unfold pW at h
 refine Fun.intro Tryz.func150 rfl rfl rfl fun w R=>?_;refine .seq<|.region<|.box rfl rfl fun g1=>.b [1] rfl<|.seq<|.regionX (iN [0,5,12,16,11,23,27,28] .nil) _ mixed (by kernel_rfl) zw<|.yn 1 rfl<|.yx 0 0 rfl<|.yn 1 rfl<|.yl 1 0 rfl<|.xef<|.bd h fun r1 hr1 h=>.cr 3 [] [] 0 (cM hr1) zNi rfl fun A2 c2=>.xk (zl [] 1 rfl)<|.xef<|.bd h fun r2 hr2 h=>.cr 4 [] [] 0 (iC hr2) zMf rfl fun A3 c3=>.xk (zl [] 2 rfl)<|.xef<|.asrt (fun _ w=>w.meltL)<|.bd h fun l1 hl1 h=>.app (E:=eu8) hl1 rfl rfl rfl (.s .z) rfl rfl rfl rfl rfl rfl rfl rfl (iB (.head _)) rfl rfl fun A4 c4=>.xk (zl [] 2 rfl)<|.yn 1 rfl<|.xdone<|.thenN<|.pf [1,3] [0] 1 rfl rfl<|.a 2 rfl<|.lb 4 1 rfl<|.p rfl rfl<|.bd h fun r3 hr3 h=>.cr 4 [] [] 0 (fX hr3) zIz rfl fun A5 c5=>.asrt (fun _ w=>w.meltL)<|.bd h fun l2 hl2 h=>.app (E:=eu8) hl2 rfl rfl rfl (.s .z) rfl rfl rfl rfl rfl rfl rfl rfl (iB (.head _)) rfl rfl fun A6 c6=>.bf [1,3] [0] 1 rfl rfl<|.a 2 rfl<|.lb 4 1 rfl<|.bd h fun l3 hl3 h=>.app (E:=eu8) hl3 rfl rfl rfl .z rfl rfl rfl rfl rfl rfl rfl rfl (iB (.tail _ (.tail _ (.head _)))) rfl rfl fun A7 c7=>.bf [2] [0] 2 rfl rfl ?_;cases h;exact .rv rfl rfl ⟨A7,c7,rfl,rfl⟩ zw
theorem zQj:Ent Tryz.prog 154:=en Tryz.func154 (by kernel_rfl)
noncomputable def pS (b_p0:(List Int)):Option Int:=
 bnd (yE (τ:=Int) (fun (s1:Int × Int)=>bif decide (s1.2<(b_p0.length:Int)) then (bnd (elt b_p0 s1.2) fun x1=>bnd (yE (τ:=Int) (fun (s2:Int × Int)=>bif decide (s2.2<8) then (bif ((s2.1.tmod 2)==1) then (some (.next (fG .u32 (IntKind.wrap .u32 (s2.1.tdiv 2)) 3988292384,IntKind.wrap .i64 (s2.2+1)))) else (some (.next (IntKind.wrap .u32 (s2.1.tdiv 2),IntKind.wrap .i64 (s2.2+1))))) else (some (.done s2.1))) (fG .u32 s1.1 (IntKind.wrap .u32 x1),0)) fun o2=>some (.next (o2,IntKind.wrap .i64 (s1.2+1)))) else (some (.done s1.1))) (4294967295,0)) fun o1=>some (IntKind.wrap .u32 (4294967295 - o1))
theorem zAV {b_p0 A1 c1 r} (h:pS b_p0=some r):
    Fun Tryz.prog 154 [.slice A1 b_p0.length c1] [.ro (SlL eu8 A1 c1 b_p0)] (Val (.int .u32 r)):=by
 refine Fun.intro Tryz.func154 rfl rfl rfl fun w R=>?_;refine .ab [0] rfl<|.ae rfl<|.seq<|.ae rfl<|.bd h fun o1 hl1 h=>.cu 1 [.s 3 (.int .u32 o1)] [] rfl rfl ?_ ?_
 ·refine .block<|.loopQ hl1 0 (fun (s1:Int × Int) (e1:Unit)=>[0, .s 3 (.int .u32 s1.1), .s 4 (.int .i64 s1.2)]) (fun s1 e1=>[]) rfl rfl () (zb rfl) (fun _ w=>w) ?_;rintro s1 e1 st1 hm1 hd1 h1;refine .seq<|.ab [0,3,4,10] rfl<|.cb h1 rfl (fun h1=>?_) (fun h1=>?_)
  ·refine .sk<|.pr [0,3,4] rfl<|.seq<|.block<|.a 3 rfl<|.bd h1 fun x1 hx1 h1=>.ix1 hx1 0 rfl fun b1 ob1=>.ld ob1 0 0 rfl<|.bf [0,3,4] [] 1 rfl rfl<|.ae rfl<|.bd h1 fun o2 hl2 h1=>.selfThen<|.cu 0 [0, .s 3 (.int .u32 o2),4] [] rfl rfl ?_ ?_
   ·refine .block<|.loopQ hl2 0 (fun (s2:Int × Int) (e3:Unit)=>[0, .s 3 (.int .u32 s2.1),4, .s 5 (.int .i64 s2.2)]) (fun s2 e3=>[]) rfl rfl () (zb rfl) (fun _ w=>w) ?_;rintro s2 e3 st2 hm2 hd2 h2;refine .seq<|.ab [0,3,4,5,21] rfl<|.cb h2 rfl (fun h2=>?_) (fun h2=>?_)
    ·refine .sk<|.pr [0,3,4,5] rfl<|.seq<|.block<|.ab [0,3,4,5,6] rfl<|.ab [0,3,4,5,6] rfl<|.ab [0,3,4,5,29] rfl<|.cb h2 rfl (fun h2=>?_) (fun h2=>?_)
     ·refine .region<|.n 3 rfl<|.done<|.blkN<|.thenN<|.pr [0,3,4,5] rfl<|.region ?_;cases h2;exact .be rfl<|.ag () hm2 rfl zw
     refine .skip<|.blkN<|.thenN<|.pr [0,3,4,5] rfl<|.region ?_;cases h2;exact .be rfl<|.ag () hm2 rfl zw
    refine .xq rfl ?_;cases h2;cases hd2 _ rfl
    exact .thenN<|.hU rfl zw
   refine .blkN<|.thenN<|.region ?_;cases h1;exact .be rfl<|.ag () hm1 rfl zw
  refine .xq rfl ?_;cases h1;cases hd1 _ rfl
  exact .thenN<|.hU rfl (zl [] 1 rfl)
 refine .ab [2] rfl ?_;cases h;exact .rv rfl rfl ⟨rfl,rfl⟩ zw
theorem zQB:Ent Tryz.prog 136:=en Tryz.func136 (by kernel_rfl)
noncomputable def jS (i_p0:zI):Option Int:=
 bnd (pV i_p0) fun r1=>bif !r1 then (some 0) else (bnd (pW i_p0) fun r2=>bnd (pS r2) fun r3=>some r3)
theorem zDC {i_p0 A1 c1 r} (h:jS i_p0=some r):
    Fun Tryz.prog 136 [.agg (xC i_p0 A1 c1).toArray] [.ro (SlL eu8 A1 c1 i_p0.Data)] (Val (.int .u32 r)):=by
 refine Fun.intro Tryz.func136 rfl rfl rfl fun w R=>?_;refine .seq<|.region<|.box rfl rfl fun g1=>.b [1] rfl<|.seq<|.seq<|.region<|.lb 0 0 rfl<|.bd h fun r1 hr1 h=>.cv [1] (eF hr1) zLY rfl<|.b [1,5] rfl<|.cb h rfl (fun h=>?_) (fun h=>?_)
 ·refine .abf [2] [] 2 rfl rfl ?_;cases h;exact .rv rfl rfl ⟨rfl,rfl⟩ zw
 refine .sk<|.pr [1] rfl<|.seq<|.region<|.lb 0 0 rfl<|.bd h fun r2 hr2 h=>.cr 3 [1] [] 0 (zAT hr2) zRj rfl fun A2 c2=>.asrt (fun _ w=>w.meltL)<|.bd h fun r3 hr3 h=>.cv [0] (zAV hr3) zQj rfl<|.bf [2] [] 3 rfl rfl ?_;cases h;exact .rv rfl rfl ⟨rfl,rfl⟩ zw
theorem zWK:Ent Tryz.prog 56:=en Tryz.func56 (by kernel_rfl)
noncomputable def fS (i_p0:zI):Option (zB × Int):=
 bnd (pV i_p0) fun r1=>bif !r1 then (some ((⟨⟨#[]⟩,(⟨(⟨(⟨⟨#[]⟩,(⟨0,0,0⟩:zJ), []⟩:zI),0⟩:yF),(⟨(⟨⟨#[]⟩,(⟨0,0,0⟩:zJ), []⟩:zI),0⟩:yF)⟩:(qS yF)),0,0,false⟩:zB),1)) else (bnd (jI i_p0) fun r2=>bnd (jS i_p0) fun r3=>some ((⟨i_p0.Name,(⟨(⟨r2,r3⟩:yF),(⟨(⟨⟨#[]⟩,(⟨0,0,0⟩:zJ), []⟩:zI),0⟩:yF)⟩:(qS yF)),0,0,false⟩:zB),0))
theorem zKF {i_p0 A1 c1 r} (h:fS i_p0=some r):
    Fun Tryz.prog 56 [.agg (xC i_p0 A1 c1).toArray] [.ro (SlL eu8 A1 c1 i_p0.Data)] (fun v F=>∃ A2 c2 A3 c3,v= .tuple #[.agg (zO r.1 A2 c2 A3 c3).toArray, .int .i64 r.2]∧F= [.ro (SlL eu8 A2 c2 r.1.Slots.e0.Image.Data), .ro (SlL eu8 A3 c3 r.1.Slots.e1.Image.Data)]):=by
 refine Fun.intro Tryz.func56 rfl rfl rfl fun w R=>?_;refine .seq<|.region<|.box rfl rfl fun g1=>.alloc rfl rfl fun g2=>.b [1,2] rfl<|.seq<|.seq<|.region<|.lb 0 1 rfl<|.bd h fun r1 hr1 h=>.cv [2] (eF hr1) zLY rfl<|.b [1,2,7] rfl<|.cb h rfl (fun h=>?_) (fun h=>?_)
 ·refine .a 1 rfl<|.sb 0 0 rfl<|.bf [2,3] [0] 2 rfl rfl<|.asrt (fun _ w=>w.nilSl (cod eu8))<|.asrt (fun _ w=>w.nilSl (cod eu8)) ?_;cases h;exact .rt rfl Tryz.results56 (.cell rfl (.tail _ (.tail _ (.head _))) rfl (.tmp rfl .nil)) rfl ⟨none,0,none,0,rfl,rfl⟩ (zk 2 3 [0,0] [] 0 rfl)
 refine .sk<|.pr [1,2] rfl<|.a 1 rfl<|.lb 0 1 rfl<|.p rfl rfl<|.alloc rfl rfl fun g3=>.sb 0 0 rfl<|.b [1,2,4] rfl<|.seq<|.regionX (iN [1,8,20,7,14,16,24,31] .nil) _ mixed (by kernel_rfl) (zl [] 1 rfl)<|.yx 0 2 rfl<|.yl 0 1 rfl<|.yn 1 rfl<|.xef<|.bd h fun r2 hr2 h=>.cr 5 [3] [] 0 (zGB hr2) zUI rfl fun A2 c2=>.xk (zl [] 2 rfl)<|.bd h fun r3 hr3 h=>.xqc (fun _ h=>h) (zDC hr3) zQB rfl rfl rfl rfl (za [2] rfl)<|.yn 2 rfl<|.xef<|.sb 1 1 rfl<|.xk (zl [] 2 rfl)<|.xdone<|.thenN<|.pf [2,4] [0,0,0] 2 rfl rfl<|.seq<|.region<|.lb 0 0 rfl<|.sb 0 2 rfl<|.bf [2,3] [0] 1 rfl rfl<|.asrt (fun _ w=>w.nilSl (cod eu8)) ?_;cases h;exact .rt rfl Tryz.results56 (.cell rfl (.tail _ (.head _)) rfl (.tmp rfl .nil)) rfl ⟨A2,c2,none,0,rfl,rfl⟩ (zk 2 3 [2,0] [] 0 rfl)
theorem zXe:Ent Tryz.prog 12:=en Tryz.func12 (by kernel_rfl)
noncomputable def sQ (c_p0:xW) (most:Int):Option (xW × (List zB)):=
 bnd (jE) fun r1=>bnd (yK c_p0 most) fun r2=>bnd (sub r1 0 (IntKind.wrap .i64 (1+r2.2))) fun l1=>bnd (yE (τ:=List zB × List Int × Int) (fun (s1:List zB × Int × List Int × Int)=>bif decide (s1.2.1<(l1.length:Int)) then (bnd (elt l1 s1.2.1) fun x1=>bnd (yK (⟨s1.2.2.1,s1.2.2.2⟩:xW) 5) fun r3=>bnd (yK r3.1 4) fun r4=>bnd (fS (⟨x1,(⟨IntKind.wrap .i64 (1+(IntKind.wrap .i64 (r3.2.tdiv 4))),0,0⟩:zJ), [IntKind.wrap .u8 r4.2]⟩:zI)) fun r5=>bnd (app 184 s1.1 [r5.1]) fun l2=>some (.next (l2,IntKind.wrap .i64 (s1.2.1+1),r4.1.L,r4.1.At))) else (some (.done (s1.1,s1.2.2.1,s1.2.2.2)))) ([],0,r2.1.L,r2.1.At)) fun o1=>some ((⟨o1.2.1,o1.2.2⟩:xW),o1.1)
theorem bM {c_p0 most A1 c1 gb1 r} (h:sQ c_p0 most=some r):
    Fun Tryz.prog 12 [.pointer (some ⟨gb1,0,none⟩), .int .i64 most] [.ro (SlL eu8 A1 c1 c_p0.L), .res (Box gb1 127 [.slice A1 c_p0.L.length c1, .int .i64 c_p0.At])] (fun v F=>∃ A2 c2 A3 c3,v= .slice A3 r.2.length c3∧F= [.ro (SlL eu8 A2 c2 r.1.L), .res (Box gb1 127 [.slice A2 r.1.L.length c2, .int .i64 r.1.At]), .res (xB (yH zE) 64 A3 c3 r.2)]):=by
 refine Fun.intro Tryz.func12 rfl rfl rfl fun w R=>?_;refine .ab [0,1] rfl<|.ae rfl<|.seq<|.seq<|.region<|.bd h fun r1 hr1 h=>.cr 3 [] [] 0 (zGq hr1) zWO rfl fun A2 c2=>.n 2 rfl<|.bd h fun r2 hr2 h=>.cr 4 [2] [2] 0 (yN hr2) jT rfl fun A3 c3=>.p rfl rfl<|.asrt (fun _ w=>(w.sl [2] 0 rfl).meltL)<|.bd h fun l1 hl1 h=>.sub (E:=(cod zVy)) rfl rfl (.head _) rfl rfl rfl rfl rfl rfl rfl hl1 fun A4 c4=>.bf [0,5,15,16,17] [0,1,1] 2 rfl rfl<|.asrt (fun _ w=>w.nilC (yH zE) 64)<|.bd h fun o1 hl1 h=>.cutK 4 (fun (e2:Option Addr × Nat × Option Addr × Nat)=>[.s 5 (.slice e2.1 o1.1.length e2.2.1)]) (fun e2=>[.ro (SlL eu8 e2.2.2.1 e2.2.2.2 o1.2.1), .res (xB (yH zE) 64 e2.1 e2.2.1 o1.1), .res (Box gb1 127 [.slice e2.2.2.1 o1.2.1.length e2.2.2.2, .int .i64 o1.2.2])]) rfl rfl ?_ ?_
 ·refine .block<|.loopQ hl1 4 (fun (s1:List zB × Int × List Int × Int) (e1:Option Addr × Nat × Option Addr × Nat)=>[0, .s 5 (.slice e1.1 s1.1.length e1.2.1),15,16, .s 17 (.int .i64 s1.2.1)]) (fun s1 e1=>[.ro (SlL eu8 e1.2.2.1 e1.2.2.2 s1.2.2.1), .res (xB (yH zE) 64 e1.1 e1.2.1 s1.1),1, .res (Box gb1 127 [.slice e1.2.2.1 s1.2.2.1.length e1.2.2.2, .int .i64 s1.2.2.2])]) rfl rfl (none,0,A3,c3) (zb rfl) (zl [2] 0 rfl) ?_;rintro s1 ⟨A5,c5,A6,c6⟩ st1 hm1 hd1 h1;refine .ae rfl<|.seq<|.cb h1 rfl (fun h1=>?_) (fun h1=>?_)
  ·refine .sk<|.pr [0,5,15,16,17] rfl<|.seq<|.block<|.seq<|.region<|.bd h1 fun x1 hx1 h1=>.ix1 hx1 2 rfl fun b1 ob1=>.ld ob1 0 0 rfl<|.bf [0,5,7,15,16,17] [] 1 rfl rfl<|.a 2 rfl<|.bd h1 fun r3 hr3 h1=>.cr 5 [1] [3] 0 (yN hr3) jT rfl fun A9 c9=>.n 4 rfl<|.bd h1 fun r4 hr4 h1=>.cr 6 [1] [1] 0 (yN hr4) jT rfl fun A10 c10=>.p rfl rfl<|.bS rfl fun g1=>.p rfl rfl<|.asrt (fun _ w=>w.litL (E:=eu8) (e:=5) [IntKind.wrap .u8 r4.2] rfl rfl)<|.asrt (fun _ w=>w.meltL)<|.bd h1 fun r5 hr5 h1=>.ct 9 [0] [] 0 (zKF hr5) zWK rfl fun A11 c11 A12 c12=>.n 3 rfl<|.alloc rfl rfl fun g2=>.sb 0 0 rfl<|.bf [0,5,8,15,16,17] [0,0,0,1,1] 3 rfl rfl<|.region<|.p rfl rfl<|.lb 0 0 rfl<|.bS rfl fun g3=>.bd h1 fun l2 hl2 h1=>.appC (E:=(yH zE)) hl2 rfl rfl rfl (.s (.s (.s (.s (.s (.s .z)))))) rfl rfl rfl rfl rfl rfl rfl rfl (zDS (ls:=zE) [(r5.1,((A11,c11),((A12,c12),())))] (.head _) rfl rfl rfl ⟨(zm 2 rfl),(zm 3 rfl),trivial⟩) rfl rfl fun A13 c13=>.p rfl rfl<|.done<|.blkN<|.thenN<|.pf [0,5,15,16,17] [0] 4 rfl rfl<|.region ?_;cases h1;exact .be rfl<|.ag (A13,c13,A10,c10) hm1 rfl (zl [1,0,1] 0 rfl)
  refine .xq rfl ?_;cases h1;cases hd1 _ rfl
  exact .thenN<|.hE (A5,c5,A6,c6) rfl (zl [0,0] 1 rfl)
 rintro ⟨A7,c7,A8,c8⟩;refine .ab [4] rfl ?_;cases h;exact .rv rfl rfl ⟨A8,c8,A7,c7,rfl,rfl⟩ (zk 3 1 [2] [2,1] 0 rfl)
theorem zWx:Ent Tryz.prog 13:=en Tryz.func13 (by kernel_rfl)
noncomputable def jL (c_p0:xW) (l_p1:(List zB)):Option (xW × (List zX)):=
 bnd (yK c_p0 4) fun r1=>bnd (yE (τ:=List zX × List Int × Int) (fun (s1:List zX × Int × List Int × Int)=>bnd ((bif decide (s1.2.1>0) then (some (decide ((l_p1.length:Int)>1))) else (some false):Option Bool)) fun o2=>bif o2 then (bnd (yK (⟨s1.2.2.1,s1.2.2.2⟩:xW) (l_p1.length:Int)) fun r2=>bnd (yK r2.1 (l_p1.length:Int)) fun r3=>bnd (elt l_p1 r2.2) fun x1=>bnd (elt l_p1 r3.2) fun x2=>bnd (yK r3.1 2) fun r4=>bif (r2.2 != r3.2) then (bnd (app 80 s1.1 [(⟨x1.Name,(⟨2,0,0⟩:zJ),x2.Name,(⟨IntKind.wrap .i64 (1+r4.2),0,0⟩:zJ)⟩:zX)]) fun l1=>some (.next (l1,IntKind.wrap .i64 (s1.2.1 - 1),r4.1.L,r4.1.At))) else (some (.next (s1.1,IntKind.wrap .i64 (s1.2.1 - 1),r4.1.L,r4.1.At)))) else (some (.done (s1.1,s1.2.2.1,s1.2.2.2)))) ([],r1.2,r1.1.L,r1.1.At)) fun o1=>some ((⟨o1.2.1,o1.2.2⟩:xW),o1.1)
theorem zGu {c_p0 l_p1 A1 c1 A2 c2 gb1 r} (h:jL c_p0 l_p1=some r):
    Fun Tryz.prog 13 [.pointer (some ⟨gb1,0,none⟩), .slice A2 l_p1.length c2] [.ro (SlL eu8 A1 c1 c_p0.L), .ro (Sl (yH zE) A2 c2 l_p1), .res (Box gb1 127 [.slice A1 c_p0.L.length c1, .int .i64 c_p0.At])] (fun v F=>∃ A3 c3 A4 c4,v= .slice A4 r.2.length c4∧F= [.ro (SlL eu8 A3 c3 r.1.L), .res (Box gb1 127 [.slice A3 r.1.L.length c3, .int .i64 r.1.At]), .res (zL zP 123 A4 c4 r.2)]):=by
 refine Fun.intro Tryz.func13 rfl rfl rfl fun w R=>?_;refine .ab [0,1] rfl<|.ae rfl<|.seq<|.a 1 rfl<|.bd h fun r1 hr1 h=>.cr 4 [1] [2] 0 (yN hr1) jT rfl fun A3 c3=>.bf [0,1,5,6] [0,0] 1 rfl rfl<|.asrt (fun _ w=>w.nilL zP 123)<|.bd h fun o1 hl1 h=>.cutK 4 (fun (e2:Option Addr × Nat × Option Addr × Nat)=>[.s 5 (.slice e2.1 o1.1.length e2.2.1)]) (fun e2=>[.ro (SlL eu8 e2.2.2.1 e2.2.2.2 o1.2.1), .res (zL zP 123 e2.1 e2.2.1 o1.1), .res (Box gb1 127 [.slice e2.2.2.1 o1.2.1.length e2.2.2.2, .int .i64 o1.2.2])]) rfl rfl ?_ ?_
 ·refine .block<|.loopQ hl1 3 (fun (s1:List zX × Int × List Int × Int) (e1:Option Addr × Nat × Option Addr × Nat)=>[0,1, .s 5 (.slice e1.1 s1.1.length e1.2.1), .s 6 (.int .i64 s1.2.1)]) (fun s1 e1=>[.ro (SlL eu8 e1.2.2.1 e1.2.2.2 s1.2.2.1), .res (zL zP 123 e1.1 e1.2.1 s1.1), .res (Box gb1 127 [.slice e1.2.2.1 s1.2.2.1.length e1.2.2.2, .int .i64 s1.2.2.2])]) rfl rfl (none,0,A3,c3) (zb rfl) (zl [1] 0 rfl) ?_;rintro s1 ⟨A4,c4,A5,c5⟩ st1 hm1 hd1 h1;refine .seq<|.seq<|.bd h1 fun o2 hj1 h1=>.cu 0 [0,1,5,6, .s 18 (.bool o2)] [] rfl rfl ?_ ?_
  ·refine .region<|.n 3 rfl<|.gs 14 hj1 rfl (fun hj1=>?_) (fun hj1=>?_)
   ·cases hj1;exact .be rfl<|.hU rfl zw
   cases hj1;exact .be rfl<|.hU rfl zw
  refine .cb h1 rfl (fun h1=>?_) (fun h1=>?_)
  ·refine .sk<|.pr [0,1,5,6] rfl<|.seq<|.block<|.a 3 rfl<|.bd h1 fun r2 hr2 h1=>.cr 5 [1] [2] 0 (yN hr2) jT rfl fun A8 c8=>.n 3 rfl<|.bd h1 fun r3 hr3 h1=>.cr 6 [1] [1] 0 (yN hr3) jT rfl fun A9 c9=>.bf [0,1,5,6,7,8] [0,0] 2 rfl rfl<|.seq<|.bd h1 fun x1 hx1 h1=>.openN (zm 3 rfl) hx1 fun b1 ob1 ex1 hqb1=>?_;obtain ⟨⟨A10,c10⟩,⟨⟨A11,c11⟩,_⟩⟩:=ex1;refine .nm 7 rfl<|.bd h1 fun x2 hx2 h1=>.openN (zm 6 rfl) hx2 fun b2 ob2 ex2 hqb2=>?_;obtain ⟨⟨A12,c12⟩,⟨⟨A13,c13⟩,_⟩⟩:=ex2;refine .nm 10 rfl<|.bd h1 fun r4 hr4 h1=>.regionX (iN [0,4,8,12,16,20,24,28,32,36,40,44] (.alt (iN [51,52,56,60] (iN [67] (iN [71] .nil))) (iN [67] (iN [51,52,56,60] (iN [71] .nil))))) _ mixed (by kernel_rfl) (zl [0,0,0,0,0,0,0] 1 rfl)<|.shareK (Y:=?Ynd1_0) 8 (fun (e:Nat × Option Addr × Nat)=>[0,1,5,6,7,8, .s 9 (.pointer (some ⟨e.1,0,none⟩)), .s 33 (.string x1.Name), .s 34 (.agg #[.int .i64 2, .int .i64 0, .int .i64 0]), .s 39 (.string x2.Name), .s 41 (.int .i64 r4.2), .s 42 (.int .i64 (IntKind.wrap .i64 (1+r4.2))), .s 43 (.agg #[.int .i64 (IntKind.wrap .i64 (1+r4.2)), .int .i64 0, .int .i64 0]), .s 44 (.agg #[.string x1.Name, .int .i64 2, .int .i64 0, .int .i64 0, .string x2.Name, .int .i64 (IntKind.wrap .i64 (1+r4.2)), .int .i64 0, .int .i64 0])]) (fun e=>[.res (Box e.1 123 [.string (⟨#[]⟩), .int .i64 0, .int .i64 0, .int .i64 0, .string (⟨#[]⟩), .int .i64 0, .int .i64 0, .int .i64 0]), .ro (SlL eu8 e.2.1 e.2.2 r4.1.L), .res (Box gb1 127 [.slice e.2.1 r4.1.L.length e.2.2, .int .i64 r4.1.At]),0,1,2,3,4,5,6]) rfl rfl (fun hnd1_0=>?mnd1_0) ?tnd1_0
   case mnd1_0=>
    refine .yn 2 rfl<|.xfl (fun _ h=>h) (Rd.ixN hqb1 hx1 rfl rfl rfl rfl rfl rfl rfl) rfl<|.yn 1 rfl<|.xfl (fun _ h=>h) (Rd.load ob1 0 rfl (zm 3 rfl) rfl rfl) rfl<|.yn 3 rfl<|.xfl (fun _ h=>h) (Rd.ixN hqb2 hx2 rfl rfl rfl rfl rfl rfl rfl) rfl<|.yn 1 rfl<|.xfl (fun _ h=>h) (Rd.load ob2 0 rfl (.head _) rfl rfl) rfl<|.yn 1 rfl<|.xalt ?_ ?_
    ·refine .xef<|.cr 11 [7] [7] 0 (yN hr4) jT rfl fun A14 c14=>.xk (zl [] 2 rfl)<|.yn 3 rfl<|.xef<|.alloc rfl rfl fun g1=>.xk (zl [] 3 rfl) ?_;refine hnd1_0 _ _ (g1,A14,c14) ?_ ?_
     ·exact ⟨rfl,rfl,rfl,rfl,rfl,rfl,rfl,rfl,rfl,rfl,rfl,rfl,rfl,rfl,trivial⟩
     exact fun _ w=>w
    refine .xef<|.alloc rfl rfl fun g1=>.xk (zl [1,1,1,1,1,1,1] 2 rfl)<|.xef<|.cr 12 [8] [8] 0 (yN hr4) jT rfl fun A14 c14=>.xk (zl [] 3 rfl)<|.yn 3 rfl ?_;refine hnd1_0 _ _ (g1,A14,c14) ?_ ?_
    ·exact ⟨rfl,rfl,rfl,rfl,rfl,rfl,rfl,rfl,rfl,rfl,rfl,rfl,rfl,rfl,trivial⟩
    exact fun _ w=>(w.sl [2] 0 rfl)
   case tnd1_0=>
    rintro ⟨g1,A14,c14⟩;refine .nm 12 rfl<|.xef<|.sb 0 0 rfl<|.xk (zl [] 3 rfl)<|.xdone<|.thenN<|.pf [0,1,5,6,7,8,9] [0,0,0] 7 rfl rfl<|.ab [0,1,5,6,9,47] rfl<|.cb h1 rfl (fun h1=>?_) (fun h1=>?_)
    ·refine .region<|.p rfl rfl<|.lb 0 0 rfl<|.bS rfl fun g2=>.bd h1 fun l1 hl1 h1=>.app (E:=zP) hl1 rfl rfl rfl (.s (.s (.s (.s .z)))) rfl rfl rfl rfl rfl rfl rfl rfl (eU (.head _) rfl rfl) rfl rfl fun A15 c15=>.p rfl rfl<|.done<|.blkN<|.thenN<|.pf [0,1,5,6] [0] 2 rfl rfl<|.region ?_;cases h1;exact .be rfl<|.ag (A15,c15,A14,c14) hm1 rfl (zl [1] 0 rfl)
    refine .skip<|.blkN<|.thenN<|.pf [0,1,5,6] [] 1 rfl rfl<|.region ?_;cases h1;exact .be rfl<|.ag (A4,c4,A14,c14) hm1 rfl (zl [0,1] 0 rfl)
  refine .xq rfl ?_;cases h1;cases hd1 _ rfl
  exact .thenN<|.hE (A4,c4,A5,c5) rfl (zl [0,0,0] 1 rfl)
 rintro ⟨A6,c6,A7,c7⟩;refine .ab [4] rfl ?_;cases h;exact .rv rfl rfl ⟨A7,c7,A6,c6,rfl,rfl⟩ (zk 3 1 [2] [2,1] 0 rfl)
theorem zUN:Ent Tryz.prog 227:=en Tryz.func227 (by kernel_rfl)
noncomputable def jJ (l_p0:(List zX)):Option Bool:=
 bif decide ((l_p0.length:Int)>16) then (some false) else (bnd (yE (τ:=Bool ⊕ Unit) (fun (s1:Int)=>bif decide (s1<(l_p0.length:Int)) then (bnd ((bnd (elt l_p0 s1) fun x1=>bnd (nD x1.Component) fun r1=>bif !r1 then (some true) else (bnd (nD x1.On) fun r2=>bif !r2 then (some true) else (bif (x1.Component.toList==x1.On.toList) then (some true) else (bnd (pT x1.From) fun r3=>bif !r3 then (some true) else (bnd (pT x1.At) fun r4=>some (!r4))))):Option Bool)) fun o3=>bif o3 then (some (.done (.inl false))) else (some (.next (IntKind.wrap .i64 (s1+1))))) else (some (.done (.inr ())))) 0) fun o1=>wR o1 fun o2=>some true)
theorem zGv {l_p0 A1 c1 r} (h:jJ l_p0=some r):
    Fun Tryz.prog 227 [.slice A1 l_p0.length c1] [.ro (SlL zP A1 c1 l_p0)] (Val (.bool r)):=by
 refine Fun.intro Tryz.func227 rfl rfl rfl fun w R=>?_;refine .ab [0] rfl<|.seq<|.ab [0,6] rfl<|.cb h rfl (fun h=>?_) (fun h=>?_)
 ·refine .abf [2] [] 1 rfl rfl ?_;cases h;exact .rv rfl rfl ⟨rfl,rfl⟩ zw
 refine .sk<|.pr [0] rfl<|.seq<|.ae rfl<|.bd h fun o1 hl1 h=>.cutJ 1 (fun (o2:Unit) (e2:Unit)=>[]) (fun o2 e2=>[]) rfl rfl (fun o2=>o1= .inr o2) ?_ ?_
 ·refine .block<|.loopQ hl1 0 (fun (s1:Int) (e1:Unit)=>[0, .s 3 (.int .i64 s1)]) (fun s1 e1=>[]) rfl rfl () (zb rfl) (fun _ w=>w) ?_;rintro s1 e1 st1 hm1 hd1 h1;refine .seq<|.ab [0,3,10] rfl<|.cb h1 rfl (fun h1=>?_) (fun h1=>?_)
  ·refine .sk<|.pr [0,3] rfl<|.seq<|.block<|.seq<|.bd h1 fun o3 hj1 h1=>.cu 0 [0,3, .s 59 (.bool o3)] [] rfl rfl ?_ ?_
   ·refine .regionF mixed (by kernel_rfl)<|.n 2 rfl<|.bd hj1 fun x1 hx1 hj1=>.ix1 hx1 0 rfl fun b1 ob1=>.p rfl rfl<|.ld ob1 0 0 rfl<|.bd hj1 fun r1 hr1 hj1=>.cv [] (bB hr1) zMt rfl<|.n 2 rfl<|.gs 20 hj1 rfl (fun hj1=>?_) (fun hj1=>?_)
    ·cases hj1;exact .beq rfl<|.hU rfl (zl [] 1 rfl)
    refine .n 2 rfl<|.gOn rfl rfl<|.ix1 hx1 1 rfl fun b2 ob2=>.n 1 rfl<|.gOn rfl rfl<|.ld ob2 4 0 rfl<|.gOn rfl rfl<|.bd hj1 fun r2 hr2 hj1=>.cv [] (bB hr2) zMt rfl<|.n 3 rfl<|.gs 29 hj1 rfl (fun hj1=>?_) (fun hj1=>?_)
    ·cases hj1;exact .beq rfl<|.hU rfl (zl [] 2 rfl)
    refine .n 2 rfl<|.gOn rfl rfl<|.ix1 hx1 2 rfl fun b3 ob3=>.n 1 rfl<|.gOn rfl rfl<|.ld ob3 0 0 rfl<|.n 2 rfl<|.gOn rfl rfl<|.ix1 hx1 3 rfl fun b4 ob4=>.n 1 rfl<|.gOn rfl rfl<|.ld ob4 4 0 rfl<|.n 3 rfl<|.gs 42 hj1 rfl (fun hj1=>?_) (fun hj1=>?_)
    ·cases hj1;exact .beq rfl<|.hU rfl (zl [] 4 rfl)
    refine .n 2 rfl<|.gOn rfl rfl<|.ix1 hx1 4 rfl fun b5 ob5=>.n 1 rfl<|.gOn rfl rfl<|.ld ob5 1 0 rfl<|.gOn rfl rfl<|.bd hj1 fun r3 hr3 hj1=>.cv [] (eI hr3) zMz rfl<|.n 3 rfl<|.gs 51 hj1 rfl (fun hj1=>?_) (fun hj1=>?_)
    ·cases hj1;exact .beq rfl<|.hU rfl (zl [] 5 rfl)
    refine .n 2 rfl<|.gOn rfl rfl<|.ix1 hx1 5 rfl fun b6 ob6=>.n 1 rfl<|.gOn rfl rfl<|.ld ob6 5 0 rfl<|.gOn rfl rfl<|.bd hj1 fun r4 hr4 hj1=>.cv [] (eI hr4) zMz rfl ?_;cases hj1;exact .beq rfl<|.hU rfl (zl [] 6 rfl)
   refine .cb h1 rfl (fun h1=>?_) (fun h1=>?_)
   ·refine .abf [2] [] 1 rfl rfl ?_;cases h1;cases hd1 _ rfl
    have h:some _=some _:=h;cases h;exact .rv rfl rfl ⟨rfl,rfl⟩ zw
   refine .skip<|.blkN<|.thenN<|.pr [0,3] rfl<|.region ?_;cases h1;exact .be rfl<|.ag () hm1 rfl zw
  refine .xq rfl ?_;cases h1;cases hd1 _ rfl
  exact .thenN<|.hereI () () rfl trivial (zl [] 1 rfl)
 rintro o2 e2 ho;subst ho;have h:=unR h;refine .ae rfl ?_;cases h;exact .rv rfl rfl ⟨rfl,rfl⟩ zw
theorem zUK:Ent Tryz.prog 149:=en Tryz.func149 (by kernel_rfl)
noncomputable def jD (b_p0:zV):Option Int:=
 bnd ((bif decide ((b_p0.Images.length:Int)<1) then (some true) else (some (decide ((b_p0.Images.length:Int)>8))):Option Bool)) fun o1=>bif o1 then (some 2) else (bnd (yE (τ:=Int ⊕ Unit) (fun (s1:Int)=>bif decide (s1<(b_p0.Images.length:Int)) then (bnd (elt b_p0.Images s1) fun x1=>bnd (pV x1) fun r1=>bif !r1 then (some (.done (.inl 1))) else (bnd ((bif decide (s1>0) then (bnd (elt b_p0.Images (IntKind.wrap .i64 (s1 - 1))) fun x2=>some (!(Op.bytesLess x2.Name.toList x1.Name.toList))) else (some false):Option Bool)) fun o4=>bif o4 then (some (.done (.inl 7))) else (some (.next (IntKind.wrap .i64 (s1+1)))))) else (some (.done (.inr ())))) 0) fun o2=>wR o2 fun o3=>bif decide ((b_p0.Needs.length:Int)>16) then (some 3) else (bnd (jJ b_p0.Needs) fun r2=>bif !r2 then (some 1) else (some 0)))
theorem zGz {b_p0 A1 c1 A2 c2 r} (h:jD b_p0=some r):
    Fun Tryz.prog 149 [.agg #[.slice A1 b_p0.Images.length c1, .slice A2 b_p0.Needs.length c2]] [.ro (Sl (yH yX) A1 c1 b_p0.Images), .ro (SlL zP A2 c2 b_p0.Needs)] (Val (.int .i64 r)):=by
 refine Fun.intro Tryz.func149 rfl rfl rfl fun w R=>?_;refine .seq<|.region<|.box rfl rfl fun g1=>.b [1] rfl<|.seq<|.seq<|.bd h fun o1 hj1 h=>.cu 0 [1, .s 13 (.bool o1)] [] rfl rfl ?_ ?_
 ·refine .region<|.p rfl rfl<|.lb 0 0 rfl<|.n 3 rfl<|.gs 8 hj1 rfl (fun hj1=>?_) (fun hj1=>?_)
  ·cases hj1;exact .be rfl<|.hU rfl zw
  refine .n 1 rfl<|.gOn rfl rfl<|.lb 0 0 rfl ?_;cases hj1;exact .be rfl<|.hU rfl zw
 refine .cb h rfl (fun h=>?_) (fun h=>?_)
 ·refine .abf [2] [] 3 rfl rfl ?_;cases h;exact .rv rfl rfl ⟨rfl,rfl⟩ zw
 refine .sk<|.pr [1] rfl<|.seq<|.ae rfl<|.bd h fun o2 hl1 h=>.cutJ 0 (fun (o3:Unit) (e3:Unit)=>[1]) (fun o3 e3=>[]) rfl rfl (fun o3=>o2= .inr o3) ?_ ?_
 ·refine .block<|.loopQ hl1 0 (fun (s1:Int) (e2:Unit)=>[1, .s 3 (.int .i64 s1)]) (fun s1 e2=>[]) rfl rfl () (zb rfl) (fun _ w=>w) ?_;rintro s1 e2 st1 hm1 hd1 h1;refine .seq<|.a 2 rfl<|.lb 0 0 rfl<|.b [1,3,18] rfl<|.cb h1 rfl (fun h1=>?_) (fun h1=>?_)
  ·refine .sk<|.pr [1,3] rfl<|.seq<|.block<|.seq<|.a 1 rfl<|.lb 0 0 rfl<|.p rfl rfl<|.bd h1 fun x1 hx1 h1=>.ix3 hx1 1 rfl fun b1 ob1 ex1=>?_;obtain ⟨⟨A3,c3⟩,_⟩:=ex1;refine .nm 5 rfl<|.ld ob1 0 0 rfl<|.bd h1 fun r1 hr1 h1=>.cv [1] (eF hr1) zLY rfl<|.bf [1,3,27] [] 2 rfl rfl<|.cb h1 rfl (fun h1=>?_) (fun h1=>?_)
   ·refine .abf [2] [] 3 rfl rfl ?_;cases h1;cases hd1 _ rfl
    have h:some _=some _:=h;cases h;exact .rv rfl rfl ⟨rfl,rfl⟩ zw
   refine .sk<|.pr [1,3] rfl<|.seq<|.bd h1 fun o4 hj2 h1=>.cu 0 [1,3, .s 45 (.bool o4)] [] rfl rfl ?_ ?_
   ·refine .regionF mixed (by kernel_rfl)<|.n 3 rfl<|.gs 30 hj2 rfl (fun hj2=>?_) (fun hj2=>?_)
    ·refine .n 1 rfl<|.gOn rfl rfl<|.lb 0 0 rfl<|.n 2 rfl<|.gOn rfl rfl<|.bd hj2 fun x2 hx2 hj2=>.ix3 hx2 1 rfl fun b2 ob2 ex2=>?_;obtain ⟨⟨A4,c4⟩,_⟩:=ex2;refine .nm 5 rfl<|.n 1 rfl<|.gOn rfl rfl<|.ld ob2 0 0 rfl<|.n 1 rfl<|.gOn rfl rfl<|.lb 0 2 rfl<|.n 1 rfl<|.gOn rfl rfl<|.ix3 hx1 3 rfl fun b3 ob3 ex3=>?_;obtain ⟨⟨A5,c5⟩,_⟩:=ex3;refine .nm 7 rfl<|.n 1 rfl<|.gOn rfl rfl<|.ld ob3 0 0 rfl ?_;cases hj2;exact .beq rfl<|.hU rfl (zl [] 4 rfl)
    cases hj2;exact .beq rfl<|.hU rfl zw
   refine .cb h1 rfl (fun h1=>?_) (fun h1=>?_)
   ·refine .abf [2] [] 3 rfl rfl ?_;cases h1;cases hd1 _ rfl
    have h:some _=some _:=h;cases h;exact .rv rfl rfl ⟨rfl,rfl⟩ zw
   refine .skip<|.blkN<|.thenN<|.pr [1,3] rfl<|.region ?_;cases h1;exact .be rfl<|.ag () hm1 rfl zw
  refine .xq rfl ?_;cases h1;cases hd1 _ rfl
  exact .thenN<|.hereI () () rfl (zb rfl) zw
 rintro o3 e3 ho;subst ho;have h:=unR h;refine .seq<|.block<|.a 1 rfl<|.lb 1 0 rfl<|.b [1,46] rfl<|.cb h rfl (fun h=>?_) (fun h=>?_)
 ·refine .abf [2] [] 3 rfl rfl ?_;cases h;exact .rv rfl rfl ⟨rfl,rfl⟩ zw
 refine .a 1 rfl<|.lb 1 0 rfl<|.bd h fun r2 hr2 h=>.cv [2] (zGv hr2) zUN rfl<|.bf [51] [] 3 rfl rfl<|.cb h rfl (fun h=>?_) (fun h=>?_)
 ·refine .ab [2] rfl ?_;cases h;exact .rv rfl rfl ⟨rfl,rfl⟩ zw
 refine .skip<|.blkN<|.thenN<|.pr [] rfl<|.ae rfl ?_;cases h;exact .rv rfl rfl ⟨rfl,rfl⟩ zw
theorem zPW:Ent Tryz.prog 151:=en Tryz.func151 (by kernel_rfl)
noncomputable def lK (n_p0:Int):Option (List Int):=
 some ([IntKind.wrap .u8 (uA .u32 n_p0 24),IntKind.wrap .u8 (uA .u32 n_p0 16),IntKind.wrap .u8 (uA .u32 n_p0 8),IntKind.wrap .u8 n_p0])
theorem zBG {n_p0 r} (h:lK n_p0=some r):
    Fun Tryz.prog 151 [.int .u32 n_p0] [] (fun v F=>∃ A1 c1,v= .slice A1 r.length c1∧F= [.res (zL eu8 5 A1 c1 r)]):=by
 unfold lK at h
 refine Fun.intro Tryz.func151 rfl rfl rfl fun w R=>?_;refine .ab [0] rfl<|.a 11 rfl<|.bS rfl fun g1=>.b [2] rfl<|.asrt (fun _ w=>w.litL (E:=eu8) (e:=5) [IntKind.wrap .u8 (uA .u32 n_p0 24),IntKind.wrap .u8 (uA .u32 n_p0 16),IntKind.wrap .u8 (uA .u32 n_p0 8),IntKind.wrap .u8 n_p0] rfl rfl) ?_;cases h;exact .rv rfl rfl ⟨(some ⟨g1,0,none⟩),([IntKind.wrap .u8 (uA .u32 n_p0 24),IntKind.wrap .u8 (uA .u32 n_p0 16),IntKind.wrap .u8 (uA .u32 n_p0 8),IntKind.wrap .u8 n_p0]:List Int).length,rfl,rfl⟩ zw
theorem zXt:Ent Tryz.prog 68:=en Tryz.func68 (by kernel_rfl)
noncomputable def lW (b_p0:zV):Option ((List Int) × Int):=
 bnd (jD b_p0) fun r1=>bif (r1 != 0) then (some ([],r1)) else (bnd (app 1 ([66,77,67,70]) [IntKind.wrap .u8 (b_p0.Images.length:Int)]) fun l1=>bnd (yE (τ:=List Int) (fun (s1:List Int × Int)=>bif decide (s1.2<(b_p0.Images.length:Int)) then (bnd (elt b_p0.Images s1.2) fun x1=>bnd (pW x1) fun r2=>bnd (app 1 s1.1 r2) fun l2=>bnd (jS x1) fun r3=>bnd (lK r3) fun r4=>bnd (app 1 l2 r4) fun l3=>some (.next (l3,IntKind.wrap .i64 (s1.2+1)))) else (some (.done s1.1))) (l1,0)) fun o1=>bnd (app 1 o1 [IntKind.wrap .u8 (b_p0.Needs.length:Int)]) fun l4=>bnd (yE (τ:=List Int) (fun (s2:List Int × Int)=>bif decide (s2.2<(b_p0.Needs.length:Int)) then (bnd (elt b_p0.Needs s2.2) fun x2=>bnd (pC x2.Component) fun r5=>bnd (app 1 s2.1 r5) fun l5=>bnd (uI x2.From) fun r6=>bnd (app 1 l5 r6) fun l6=>bnd (pC x2.On) fun r7=>bnd (app 1 l6 r7) fun l7=>bnd (uI x2.At) fun r8=>bnd (app 1 l7 r8) fun l8=>some (.next (l8,IntKind.wrap .i64 (s2.2+1)))) else (some (.done s2.1))) (l4,0)) fun o2=>bnd (pS o2) fun r9=>bnd (lK r9) fun r10=>bnd (app 1 o2 r10) fun l9=>bif decide ((l9.length:Int)>8192) then (some ([],3)) else (some (l9,0)))
theorem zEI {b_p0 A1 c1 A2 c2 r} (h:lW b_p0=some r):
    Fun Tryz.prog 68 [.agg #[.slice A1 b_p0.Images.length c1, .slice A2 b_p0.Needs.length c2]] [.ro (Sl (yH yX) A1 c1 b_p0.Images), .ro (SlL zP A2 c2 b_p0.Needs)] (fun v F=>∃ A3 c3,v= .tuple #[.slice A3 r.1.length c3, .int .i64 r.2]∧F= [.res (zL eu8 5 A3 c3 r.1)]):=by
 refine Fun.intro Tryz.func68 rfl rfl rfl fun w R=>?_;refine .seq<|.region<|.box rfl rfl fun g1=>.b [1] rfl<|.seq<|.seq<|.region<|.lb 0 0 rfl<|.bd h fun r1 hr1 h=>.cv [1,2] (zGz hr1) zUK rfl<|.b [1,4] rfl<|.ab [1,4,12] rfl<|.cb h rfl (fun h=>?_) (fun h=>?_)
 ·refine .abf [2,3] [] 3 rfl rfl<|.asrt (fun _ w=>w.nilL eu8 5) ?_;cases h;exact .rv rfl rfl ⟨none,0,rfl,rfl⟩ zw
 refine .sk<|.pr [1] rfl<|.seq<|.region<|.buildSlice0 rfl rfl rfl rfl rfl rfl rfl rfl fun g2=>.markB rfl rfl rfl rfl rfl rfl<|.p rfl rfl<|.lb 0 1 rfl<|.n 2 rfl<|.bS rfl fun g3=>.asrt (fun _ w=>(w.sl [1] 0 rfl).litL (E:=eu8) (e:=5) [66,77,67,70] rfl rfl)<|.bd h fun l1 hl1 h=>.app (E:=eu8) hl1 rfl rfl rfl .z rfl rfl rfl rfl rfl rfl rfl rfl (eU (.tail _ (.head _)) rfl rfl) rfl rfl fun A3 c3=>.bf [1,5] [0] 1 rfl rfl<|.seq<|.ae rfl<|.bd h fun o1 hl1 h=>.cutK 1 (fun (e2:Option Addr × Nat)=>[1, .s 5 (.slice e2.1 o1.length e2.2)]) (fun e2=>[.res (zL eu8 5 e2.1 e2.2 o1)]) rfl rfl ?_ ?_
 ·refine .block<|.loopQ hl1 1 (fun (s1:List Int × Int) (e1:Option Addr × Nat)=>[1, .s 5 (.slice e1.1 s1.1.length e1.2), .s 6 (.int .i64 s1.2)]) (fun s1 e1=>[.res (zL eu8 5 e1.1 e1.2 s1.1)]) rfl rfl (A3,c3) (zb rfl) (fun _ w=>w) ?_;rintro s1 ⟨A4,c4⟩ st1 hm1 hd1 h1;refine .seq<|.a 2 rfl<|.lb 0 1 rfl<|.b [1,5,6,26] rfl<|.cb h1 rfl (fun h1=>?_) (fun h1=>?_)
  ·refine .sk<|.pr [1,5,6] rfl<|.seq<|.block<|.bd h1 fun x1 hx1 h1=>.openN (zm 2 rfl) hx1 fun b1 ob1 ex1 hqb1=>?_;obtain ⟨⟨A6,c6⟩,_⟩:=ex1;refine .nm 6 rfl<|.regionX (iN [0,4,9,12,17,21,32,36,40,44,48,27,31,54,59,63,64] .nil) _ mixed (by kernel_rfl) (zl [0,0] 1 rfl)<|.yn 2 rfl<|.yx 0 3 rfl<|.yn 1 rfl<|.xfx (Rd.ixN hqb1 hx1 rfl rfl rfl rfl rfl rfl rfl) rfl<|.xfx (Rd.load ob1 0 rfl (.head _) rfl rfl) rfl<|.yn 1 rfl<|.yl 0 2 rfl<|.yn 1 rfl<|.xfl (fun _ h=>h) (Rd.ixN hqb1 hx1 rfl rfl rfl rfl rfl rfl rfl) rfl<|.xfl (fun _ h=>h) (Rd.load ob1 0 rfl (.head _) rfl rfl) rfl<|.xef<|.bd h1 fun r2 hr2 h1=>.cr 7 [1] [] 0 (zAT hr2) zRj rfl fun A7 c7=>.xk (zl [1,1] 2 rfl)<|.xef<|.asrt (fun _ w=>w.meltL)<|.bd h1 fun l2 hl2 h1=>.app (E:=eu8) hl2 rfl rfl rfl (.s (.s (.s .z))) rfl rfl rfl rfl rfl rfl rfl rfl (iB (.head _)) rfl rfl fun A8 c8=>.xk (zl [] 2 rfl)<|.bd h1 fun r3 hr3 h1=>.xqc (fun _ h=>h) (zDC hr3) zQB rfl rfl rfl rfl (za [1] rfl)<|.xef<|.bd h1 fun r4 hr4 h1=>.cr 8 [] [] 0 (zBG hr4) zPW rfl fun A9 c9=>.xk (zl [] 3 rfl)<|.xef<|.asrt (fun _ w=>w.meltL)<|.bd h1 fun l3 hl3 h1=>.app (E:=eu8) hl3 rfl rfl rfl (.s .z) rfl rfl rfl rfl rfl rfl rfl rfl (iB (.head _)) rfl rfl fun A10 c10=>.xk (zl [] 3 rfl)<|.yn 1 rfl<|.xdone<|.blkN<|.thenN<|.pf [1,5,6] [0] 4 rfl rfl<|.region ?_;cases h1;exact .be rfl<|.ag (A10,c10) hm1 rfl zw
  refine .xq rfl ?_;cases h1;cases hd1 _ rfl
  exact .thenN<|.hE (A4,c4) rfl zw
 rintro ⟨A5,c5⟩;refine .a 2 rfl<|.lb 1 1 rfl<|.n 2 rfl<|.bS rfl fun g4=>.bd h fun l4 hl4 h=>.app (E:=eu8) hl4 rfl rfl rfl (.s .z) rfl rfl rfl rfl rfl rfl rfl rfl (eU (.head _) rfl rfl) rfl rfl fun A11 c11=>.bf [1,5] [0] 1 rfl rfl<|.seq<|.ae rfl<|.bd h fun o2 hl2 h=>.cutK 4 (fun (e4:Option Addr × Nat)=>[.s 5 (.slice e4.1 o2.length e4.2)]) (fun e4=>[.res (zL eu8 5 e4.1 e4.2 o2)]) rfl rfl ?_ ?_
 ·refine .block<|.loopQ hl2 1 (fun (s2:List Int × Int) (e3:Option Addr × Nat)=>[1, .s 5 (.slice e3.1 s2.1.length e3.2), .s 7 (.int .i64 s2.2)]) (fun s2 e3=>[.res (zL eu8 5 e3.1 e3.2 s2.1)]) rfl rfl (A11,c11) (zb rfl) (fun _ w=>w) ?_;rintro s2 ⟨A12,c12⟩ st2 hm2 hd2 h2;refine .seq<|.a 2 rfl<|.lb 1 1 rfl<|.b [1,5,7,56] rfl<|.cb h2 rfl (fun h2=>?_) (fun h2=>?_)
  ·refine .sk<|.pr [1,5,7] rfl<|.seq<|.block<|.a 1 rfl<|.lb 1 1 rfl<|.p rfl rfl<|.bd h2 fun x2 hx2 h2=>.ix1 hx2 3 rfl fun b2 ob2=>.ld ob2 0 0 rfl<|.alloc rfl rfl fun g5=>.sb 0 0 rfl<|.bf [1,5,7,8] [0] 1 rfl rfl<|.seq<|.regionX (iN [0,4,9,20,24,15,19,31,35,36] .nil) _ mixed (by kernel_rfl) (zl [0] 1 rfl)<|.yn 2 rfl<|.yx 0 0 rfl<|.yn 1 rfl<|.yl 1 0 rfl<|.xef<|.bd h2 fun r5 hr5 h2=>.cr 6 [] [] 0 (cM hr5) zNi rfl fun A14 c14=>.xk (zl [1] 2 rfl)<|.xef<|.asrt (fun _ w=>w.meltL)<|.bd h2 fun l5 hl5 h2=>.app (E:=eu8) hl5 rfl rfl rfl (.s (.s .z)) rfl rfl rfl rfl rfl rfl rfl rfl (iB (.head _)) rfl rfl fun A15 c15=>.xk (zl [] 2 rfl)<|.xef<|.bd h2 fun r6 hr6 h2=>.cr 7 [] [] 0 (iC hr6) zMf rfl fun A16 c16=>.xk (zl [] 3 rfl)<|.xef<|.asrt (fun _ w=>w.meltL)<|.bd h2 fun l6 hl6 h2=>.app (E:=eu8) hl6 rfl rfl rfl (.s .z) rfl rfl rfl rfl rfl rfl rfl rfl (iB (.head _)) rfl rfl fun A17 c17=>.xk (zl [] 3 rfl)<|.yn 1 rfl<|.xdone<|.thenN<|.pf [1,5,7,8] [0] 2 rfl rfl<|.regionX (iN [0,4,9,20,24,15,19,31,35,36] .nil) _ mixed (by kernel_rfl) (zl [] 1 rfl)<|.yn 2 rfl<|.yx 4 1 rfl<|.yn 1 rfl<|.yl 5 0 rfl<|.xef<|.bd h2 fun r7 hr7 h2=>.cr 6 [] [] 0 (cM hr7) zNi rfl fun A18 c18=>.xk (zl [] 2 rfl)<|.xef<|.asrt (fun _ w=>w.meltL)<|.bd h2 fun l7 hl7 h2=>.app (E:=eu8) hl7 rfl rfl rfl (.s .z) rfl rfl rfl rfl rfl rfl rfl rfl (iB (.head _)) rfl rfl fun A19 c19=>.xk (zl [] 2 rfl)<|.xef<|.bd h2 fun r8 hr8 h2=>.cr 7 [] [] 0 (iC hr8) zMf rfl fun A20 c20=>.xk (zl [] 3 rfl)<|.xef<|.asrt (fun _ w=>w.meltL)<|.bd h2 fun l8 hl8 h2=>.app (E:=eu8) hl8 rfl rfl rfl (.s .z) rfl rfl rfl rfl rfl rfl rfl rfl (iB (.head _)) rfl rfl fun A21 c21=>.xk (zl [] 3 rfl)<|.yn 1 rfl<|.xdone<|.blkN<|.thenN<|.pf [1,5,7] [0] 3 rfl rfl<|.region ?_;cases h2;exact .be rfl<|.ag (A21,c21) hm2 rfl zw
  refine .xq rfl ?_;cases h2;cases hd2 _ rfl
  exact .thenN<|.hE (A12,c12) rfl (zl [0] 3 rfl)
 rintro ⟨A13,c13⟩;refine .a 2 rfl<|.bd h fun r9 hr9 h=>.callL (zAV hr9) zQj rfl rfl rfl rfl (gH.own (.head _) gH.nil) (fun _ _ h=>by rw [h.2]; exact True.intro) ?_;rintro _ _ ⟨rfl,rfl⟩;refine .nm 1 rfl<|.bd h fun r10 hr10 h=>.cr 2 [] [] 0 (zBG hr10) zPW rfl fun A22 c22=>.asrt (fun _ w=>w.meltL)<|.bd h fun l9 hl9 h=>.app (E:=eu8) hl9 rfl rfl rfl (.s .z) rfl rfl rfl rfl rfl rfl rfl rfl (iB (.head _)) rfl rfl fun A23 c23=>.bf [5] [0] 1 rfl rfl<|.seq<|.ab [5,89] rfl<|.cb h rfl (fun h=>?_) (fun h=>?_)
 ·refine .abf [2,3] [] 1 rfl rfl<|.asrt (fun _ w=>w.nilL eu8 5) ?_;cases h;exact .rv rfl rfl ⟨none,0,rfl,rfl⟩ zw
 refine .sk<|.pr [5] rfl<|.ab [2,3] rfl ?_;cases h;exact .rv rfl rfl ⟨A23,c23,rfl,rfl⟩ zw
theorem zUe:Ent Tryz.prog 17:=en Tryz.func17 (by kernel_rfl)
noncomputable def pU (c_p0:xW) (l_p1:(List zB)) (needs:(List zX)):Option (xW × (List Int)):=
 bnd (yE (τ:=List zI × List Int × Int) (fun (s1:Int × List zI × List Int × Int)=>bif decide (s1.1<(l_p1.length:Int)) then (bnd (elt l_p1 s1.1) fun x1=>bnd (yK (⟨s1.2.2.1,s1.2.2.2⟩:xW) 5) fun r1=>bif decide (r1.2<4) then (bnd (yK r1.1 6) fun r2=>bnd (yK r2.1 256) fun r3=>bnd (app 64 s1.2.1 [(⟨x1.Name,(⟨IntKind.wrap .i64 (1+((IntKind.wrap .i64 (r2.2.tdiv 2)).tmod 3)),0,0⟩:zJ), [IntKind.wrap .u8 r3.2]⟩:zI)]) fun l1=>some (.next (IntKind.wrap .i64 (s1.1+1),l1,r3.1.L,r3.1.At))) else (some (.next (IntKind.wrap .i64 (s1.1+1),s1.2.1,r1.1.L,r1.1.At)))) else (some (.done (s1.2.1,s1.2.2.1,s1.2.2.2)))) (0, [],c_p0.L,c_p0.At)) fun o1=>bnd (yE (τ:=List zX × List Int × Int) (fun (s2:Int × List zX × List Int × Int)=>bif decide (s2.1<(needs.length:Int)) then (bnd (elt needs s2.1) fun x2=>bnd (yK (⟨s2.2.2.1,s2.2.2.2⟩:xW) 2) fun r4=>bif (r4.2==0) then (bnd (app 80 s2.2.1 [x2]) fun l2=>some (.next (IntKind.wrap .i64 (s2.1+1),l2,r4.1.L,r4.1.At))) else (some (.next (IntKind.wrap .i64 (s2.1+1),s2.2.1,r4.1.L,r4.1.At)))) else (some (.done (s2.2.1,s2.2.2.1,s2.2.2.2)))) (0, [],o1.2.1,o1.2.2)) fun o2=>bnd ((bnd (yK (⟨o2.2.1,o2.2.2⟩:xW) 16) fun r5=>bif (r5.2==15) then (bnd (app 64 o1.1 [(⟨⟨#[122,122,122]⟩,(⟨1,0,0⟩:zJ), [1]⟩:zI)]) fun l3=>some (l3,o2.1,r5.1.L,r5.1.At)) else (bif (r5.2==14) then (bnd (app 80 o2.1 [(⟨⟨#[97]⟩,(⟨0,0,0⟩:zJ),⟨#[98]⟩,(⟨0,0,0⟩:zJ)⟩:zX)]) fun l4=>some (o1.1,l4,r5.1.L,r5.1.At)) else (some (o1.1,o2.1,r5.1.L,r5.1.At))):Option (List zI × List zX × List Int × Int))) fun o3=>bnd (lW (⟨o3.1,o3.2.1⟩:zV)) fun r6=>bnd ((bnd (yK (⟨o3.2.2.1,o3.2.2.2⟩:xW) 16) fun r7=>bif (r7.2==15) then (some (decide ((r6.1.length:Int)>0),r7.1.L,r7.1.At)) else (some (false,r7.1.L,r7.1.At)):Option (Bool × List Int × Int))) fun o4=>bif o4.1 then (bnd (yK (⟨o4.2.1,o4.2.2⟩:xW) (r6.1.length:Int)) fun r8=>bnd (elt r6.1 r8.2) fun x3=>bnd (rZ r6.1 r8.2 (IntKind.wrap .u8 (x3+1))) fun l5=>some (r8.1,l5)) else (some ((⟨o4.2.1,o4.2.2⟩:xW),r6.1))
theorem zAO {c_p0 l_p1 needs A1 c1 A2 c2 A3 c3 gb1 r} (h:pU c_p0 l_p1 needs=some r):
    Fun Tryz.prog 17 [.pointer (some ⟨gb1,0,none⟩), .slice A2 l_p1.length c2, .slice A3 needs.length c3] [.ro (SlL eu8 A1 c1 c_p0.L), .ro (Sl (yH zE) A2 c2 l_p1), .ro (SlL zP A3 c3 needs), .res (Box gb1 127 [.slice A1 c_p0.L.length c1, .int .i64 c_p0.At])] (fun v F=>∃ A4 c4 A5 c5,v= .slice A5 r.2.length c5∧F= [.ro (SlL eu8 A4 c4 r.1.L), .res (Box gb1 127 [.slice A4 r.1.L.length c4, .int .i64 r.1.At]), .res (zL eu8 5 A5 c5 r.2)]):=by
 refine Fun.intro Tryz.func17 rfl rfl rfl fun w R=>?_;refine .ab [0,1,2] rfl<|.seq<|.region<|.alloc rfl rfl fun g1=>.done<|.thenN<|.seq<|.ab [0,2,7,14,15,16] rfl<|.asrt (fun _ w=>w.nilC (yH yX) 58)<|.bd h fun o1 hl1 h=>.cutK 6 (fun (e2:Option Addr × Nat × Option Addr × Nat)=>[0,2,7]) (fun e2=>[.ro (SlL eu8 e2.2.2.1 e2.2.2.2 o1.2.1), .res (xB (yH yX) 58 e2.1 e2.2.1 o1.1), .res (Box g1 46 [.slice e2.1 o1.1.length e2.2.1, .slice none 0 0]),4, .res (Box gb1 127 [.slice e2.2.2.1 o1.2.1.length e2.2.2.2, .int .i64 o1.2.2])]) rfl rfl ?_ ?_
 ·refine .block<|.loopQ hl1 6 (fun (s1:Int × List zI × List Int × Int) (e1:Option Addr × Nat × Option Addr × Nat)=>[0,2,7,14,15, .s 16 (.int .i64 s1.1)]) (fun s1 e1=>[.ro (SlL eu8 e1.2.2.1 e1.2.2.2 s1.2.2.1), .res (xB (yH yX) 58 e1.1 e1.2.1 s1.2.1), .res (Box g1 46 [.slice e1.1 s1.2.1.length e1.2.1, .slice none 0 0]),3,4, .res (Box gb1 127 [.slice e1.2.2.1 s1.2.2.1.length e1.2.2.2, .int .i64 s1.2.2.2])]) rfl rfl (none,0,A1,c1) (zb rfl) (zl [2] 0 rfl) ?_;rintro s1 ⟨A4,c4,A5,c5⟩ st1 hm1 hd1 h1;refine .ae rfl<|.seq<|.cb h1 rfl (fun h1=>?_) (fun h1=>?_)
  ·refine .sk<|.pr [0,2,7,14,15,16] rfl<|.seq<|.block<|.seq<|.region<|.bd h1 fun x1 hx1 h1=>.ix3 hx1 3 rfl fun b1 ob1 ex1=>?_;obtain ⟨⟨A8,c8⟩,⟨⟨A9,c9⟩,_⟩⟩:=ex1;refine .nm 9 rfl<|.ld ob1 0 0 rfl<|.alloc rfl rfl fun g2=>.sb 0 0 rfl<|.bf [0,2,7,9,14,15,16] [0] 1 rfl rfl<|.a 1 rfl<|.bd h1 fun r1 hr1 h1=>.cr 10 [4] [8] 0 (yN hr1) jT rfl fun A10 c10=>.bf [0,2,7,9,14,15,16,22] [0,0,0,0,0] 1 rfl rfl<|.cb h1 rfl (fun h1=>?_) (fun h1=>?_)
   ·refine .bd h1 fun r2 hr2 h1=>.bd h1 fun r3 hr3 h1=>.bd h1 fun l1 hl1 h1=>.regionX (iN [0,8,12,16,40] (.alt (iN [7] (iN [23,24,28,32,36] (iN [47,48] (iN [55,56] (iN [63] (iN [67,68] (iN [75] .nil))))))) (iN [23,24,28,32,36] (.alt (iN [7] (iN [47,48] (iN [55,56] (iN [63] (iN [67,68] (iN [75] .nil)))))) (iN [47,48] (.alt (iN [7] (iN [55,56] (iN [63] (iN [67,68] (iN [75] .nil))))) (iN [55,56] (.alt (iN [7] (iN [63] (iN [67,68] (iN [75] .nil)))) (iN [63] (iN [7] (iN [67,68] (iN [75] .nil)))))))))))) _ mixed (by kernel_rfl) (zl [0,1,1,1] 3 rfl)<|.shareK (Y:=?Ynd1_0) 2 (fun (e:Nat × Nat × Option Addr × Nat × Option Addr × Nat)=>[0,2,7,14,15,16, .s 24 (.slice A4 s1.2.1.length c4), .s 26 (.string x1.Name), .s 28 (.int .i64 r2.2), .s 29 (.int .i64 (IntKind.wrap .i64 (r2.2.tdiv 2))), .s 30 (.int .i64 ((IntKind.wrap .i64 (r2.2.tdiv 2)).tmod 3)), .s 31 (.int .i64 (IntKind.wrap .i64 (1+((IntKind.wrap .i64 (r2.2.tdiv 2)).tmod 3)))), .s 32 (.agg #[.int .i64 (IntKind.wrap .i64 (1+((IntKind.wrap .i64 (r2.2.tdiv 2)).tmod 3))), .int .i64 0, .int .i64 0]), .s 34 (.int .i64 r3.2), .s 36 (.slice (some ⟨e.1,0,none⟩) 1 1), .s 38 (.slice (some ⟨e.2.1,0,none⟩) 1 1)]) (fun e=>[.res (Box e.2.1 58 [.string x1.Name, .int .i64 (IntKind.wrap .i64 (1+((IntKind.wrap .i64 (r2.2.tdiv 2)).tmod 3))), .int .i64 0, .int .i64 0, .slice (some ⟨e.1,0,none⟩) 1 1]), .res (Box e.1 5 [.int .u8 (IntKind.wrap .u8 r3.2)]), .ro (SlL eu8 e.2.2.1 e.2.2.2.1 r3.1.L), .res (Box gb1 127 [.slice e.2.2.1 r3.1.L.length e.2.2.2.1, .int .i64 r3.1.At]), .ro (SlL eu8 e.2.2.2.2.1 e.2.2.2.2.2 r2.1.L),0]) rfl rfl (fun hnd1_0=>?mnd1_0) ?tnd1_0
    case mnd1_0=>
     refine .shareK (Y:=?Ynd1_1) 2 (fun (e:Nat × Option Addr × Nat × Option Addr × Nat)=>[0,2,7,14,15,16, .s 24 (.slice A4 s1.2.1.length c4), .s 26 (.string x1.Name), .s 28 (.int .i64 r2.2), .s 29 (.int .i64 (IntKind.wrap .i64 (r2.2.tdiv 2))), .s 30 (.int .i64 ((IntKind.wrap .i64 (r2.2.tdiv 2)).tmod 3)), .s 31 (.int .i64 (IntKind.wrap .i64 (1+((IntKind.wrap .i64 (r2.2.tdiv 2)).tmod 3)))), .s 32 (.agg #[.int .i64 (IntKind.wrap .i64 (1+((IntKind.wrap .i64 (r2.2.tdiv 2)).tmod 3))), .int .i64 0, .int .i64 0]), .s 34 (.int .i64 r3.2), .s 36 (.slice (some ⟨e.1,0,none⟩) 1 1), .s 37 (.agg #[.string x1.Name, .int .i64 (IntKind.wrap .i64 (1+((IntKind.wrap .i64 (r2.2.tdiv 2)).tmod 3))), .int .i64 0, .int .i64 0, .slice (some ⟨e.1,0,none⟩) 1 1])]) (fun e=>[.res (Box e.1 5 [.int .u8 (IntKind.wrap .u8 r3.2)]), .ro (SlL eu8 e.2.1 e.2.2.1 r3.1.L), .res (Box gb1 127 [.slice e.2.1 r3.1.L.length e.2.2.1, .int .i64 r3.1.At]), .ro (SlL eu8 e.2.2.2.1 e.2.2.2.2 r2.1.L),0]) rfl rfl (fun hnd1_1=>?mnd1_1) ?tnd1_1
     case mnd1_1=>
      refine .shareK (Y:=?Ynd1_2) 2 (fun (e:Option Addr × Nat × Option Addr × Nat)=>[0,2,7,14,15,16, .s 24 (.slice A4 s1.2.1.length c4), .s 26 (.string x1.Name), .s 28 (.int .i64 r2.2), .s 29 (.int .i64 (IntKind.wrap .i64 (r2.2.tdiv 2))), .s 30 (.int .i64 ((IntKind.wrap .i64 (r2.2.tdiv 2)).tmod 3)), .s 31 (.int .i64 (IntKind.wrap .i64 (1+((IntKind.wrap .i64 (r2.2.tdiv 2)).tmod 3)))), .s 32 (.agg #[.int .i64 (IntKind.wrap .i64 (1+((IntKind.wrap .i64 (r2.2.tdiv 2)).tmod 3))), .int .i64 0, .int .i64 0]), .s 34 (.int .i64 r3.2), .s 35 (.int .u8 (IntKind.wrap .u8 r3.2))]) (fun e=>[.ro (SlL eu8 e.1 e.2.1 r3.1.L), .res (Box gb1 127 [.slice e.1 r3.1.L.length e.2.1, .int .i64 r3.1.At]), .ro (SlL eu8 e.2.2.1 e.2.2.2 r2.1.L),0]) rfl rfl (fun hnd1_2=>?mnd1_2) ?tnd1_2
      case mnd1_2=>
       refine .shareK (Y:=?Ynd1_3) 2 (fun (e:Option Addr × Nat)=>[0,2,7,14,15,16, .s 24 (.slice A4 s1.2.1.length c4), .s 26 (.string x1.Name), .s 28 (.int .i64 r2.2), .s 29 (.int .i64 (IntKind.wrap .i64 (r2.2.tdiv 2))), .s 30 (.int .i64 ((IntKind.wrap .i64 (r2.2.tdiv 2)).tmod 3)), .s 31 (.int .i64 (IntKind.wrap .i64 (1+((IntKind.wrap .i64 (r2.2.tdiv 2)).tmod 3)))), .s 32 (.agg #[.int .i64 (IntKind.wrap .i64 (1+((IntKind.wrap .i64 (r2.2.tdiv 2)).tmod 3))), .int .i64 0, .int .i64 0]), .s 33 (.pointer (some ⟨gb1,0,none⟩))]) (fun e=>[.ro (SlL eu8 e.1 e.2 r2.1.L), .res (Box gb1 127 [.slice e.1 r2.1.L.length e.2, .int .i64 r2.1.At]),0]) rfl rfl (fun hnd1_3=>?mnd1_3) ?tnd1_3
       case mnd1_3=>
        refine .yn 2 rfl<|.yl 0 1 rfl<|.yn 2 rfl<|.xalt ?_ ?_
        ·refine .xef<|.lb 0 6 rfl<|.xk (zl [0,1,1,1] 3 rfl)<|.xef<|.cr 10 [1] [1] 0 (yN hr2) jT rfl fun A11 c11=>.xk (zl [2,2,2,2] 4 rfl)<|.yn 4 rfl ?_;refine hnd1_3 _ _ (A11,c11) ?_ ?_
         ·exact ⟨rfl,rfl,rfl,rfl,rfl,rfl,rfl,rfl,rfl,rfl,rfl,rfl,rfl,rfl,trivial⟩
         exact fun _ w=>w
        refine .xef<|.cr 10 [1] [1] 0 (yN hr2) jT rfl fun A11 c11=>.xk (zl [2,2,2,2] 4 rfl)<|.yn 4 rfl<|.xalt ?_ ?_
        ·refine .xef<|.lb 0 7 rfl<|.xk (zl [2,2,2,2] 4 rfl) ?_;refine hnd1_3 _ _ (A11,c11) ?_ ?_
         ·exact ⟨rfl,rfl,rfl,rfl,rfl,rfl,rfl,rfl,rfl,rfl,rfl,rfl,rfl,rfl,trivial⟩
         exact fun _ w=>w
        refine .xef<|.cr 11 [1] [1] 0 (yN hr3) jT rfl fun A12 c12=>.xk (zl [3,3,3,3] 5 rfl)<|.yn 1 rfl<|.xalt ?_ ?_
        ·refine .xef<|.lb 0 8 rfl<|.xk (zl [3,3,3,3] 5 rfl) ?_;refine hnd1_2 _ _ (A12,c12,A11,c11) ?_ ?_
         ·exact ⟨rfl,rfl,rfl,rfl,rfl,rfl,rfl,rfl,rfl,rfl,rfl,rfl,rfl,rfl,rfl,trivial⟩
         exact fun _ w=>w
        refine .xef<|.bS rfl fun g3=>.xk (zl [4,4,4,4] 6 rfl)<|.yn 1 rfl<|.xalt ?_ ?_
        ·refine .xef<|.lb 0 9 rfl<|.xk (zl [4,4,4,4] 6 rfl) ?_;refine hnd1_1 _ _ (g3,A12,c12,A11,c11) ?_ ?_
         ·exact ⟨rfl,rfl,rfl,rfl,rfl,rfl,rfl,rfl,rfl,rfl,rfl,rfl,rfl,rfl,rfl,rfl,trivial⟩
         exact fun _ w=>w
        refine .xef<|.bS rfl fun g4=>.xk (zl [5,5,5,5] 7 rfl)<|.xef<|.lb 0 10 rfl<|.xk (zl [5,5,5,5] 7 rfl) ?_;refine hnd1_0 _ _ (g3,g4,A12,c12,A11,c11) ?_ ?_
        ·exact ⟨rfl,rfl,rfl,rfl,rfl,rfl,rfl,rfl,rfl,rfl,rfl,rfl,rfl,rfl,rfl,rfl,trivial⟩
        exact fun _ w=>w
       case tnd1_3=>
        rintro ⟨A11,c11⟩;refine .nm 10 rfl<|.xef<|.cr 11 [1] [1] 0 (yN hr3) jT rfl fun A12 c12=>.xk (zl [3,3,3,3] 5 rfl)<|.yn 1 rfl ?_;refine hnd1_2 _ _ (A12,c12,A11,c11) ?_ ?_
        ·exact ⟨rfl,rfl,rfl,rfl,rfl,rfl,rfl,rfl,rfl,rfl,rfl,rfl,rfl,rfl,rfl,trivial⟩
        exact fun _ w=>w
      case tnd1_2=>
       rintro ⟨A12,c12,A11,c11⟩;refine .nm 11 rfl<|.xef<|.bS rfl fun g3=>.xk (zl [4,4,4,4] 6 rfl)<|.yn 1 rfl ?_;refine hnd1_1 _ _ (g3,A12,c12,A11,c11) ?_ ?_
       ·exact ⟨rfl,rfl,rfl,rfl,rfl,rfl,rfl,rfl,rfl,rfl,rfl,rfl,rfl,rfl,rfl,rfl,trivial⟩
       exact fun _ w=>w
     case tnd1_1=>
      rintro ⟨g3,A12,c12,A11,c11⟩;refine .nm 12 rfl<|.xef<|.bS rfl fun g4=>.xk (zl [5,5,5,5] 7 rfl) ?_;refine hnd1_0 _ _ (g3,g4,A12,c12,A11,c11) ?_ ?_
      ·exact ⟨rfl,rfl,rfl,rfl,rfl,rfl,rfl,rfl,rfl,rfl,rfl,rfl,rfl,rfl,rfl,rfl,trivial⟩
      exact fun _ w=>w
    case tnd1_0=>
     rintro ⟨g3,g4,A12,c12,A11,c11⟩;refine .nm 13 rfl<|.xef<|.asrt (fun _ w=>(w.sl [1] 0 rfl).litL (E:=eu8) (e:=5) [IntKind.wrap .u8 r3.2] rfl rfl)<|.asrt (fun _ w=>w.meltL)<|.appC (E:=(yH yX)) hl1 rfl rfl rfl (.s (.s (.s (.s (.s (.s (.s (.s (.s .z))))))))) rfl rfl rfl rfl rfl rfl rfl rfl (zDS (ls:=yX) [((⟨x1.Name,(⟨IntKind.wrap .i64 (1+((IntKind.wrap .i64 (r2.2.tdiv 2)).tmod 3)),0,0⟩:zJ), [IntKind.wrap .u8 r3.2]⟩:zI),(((some ⟨g3,0,none⟩),([IntKind.wrap .u8 r3.2]:List Int).length),()))] (.tail _ (.head _)) rfl rfl rfl ⟨(.head _),trivial⟩) rfl rfl fun A13 c13=>.xk (zl [6,6,6,6] 7 rfl)<|.yn 1 rfl<|.xef<|.sb 0 10 rfl<|.xk (zl [] 7 rfl)<|.xdone<|.blkN<|.thenN<|.pf [0,2,7,14,15,16] [0,0,2,2] 7 rfl rfl<|.region ?_;cases h1;exact .be rfl<|.ag (A13,c13,A12,c12) hm1 rfl (zl [2,1,0,1,1] 0 rfl)
   refine .skip<|.blkN<|.thenN<|.pf [0,2,7,14,15,16] [0,0] 3 rfl rfl<|.region ?_;cases h1;exact .be rfl<|.ag (A4,c4,A10,c10) hm1 rfl (zl [0,1,1,1,1] 0 rfl)
  refine .xq rfl ?_;cases h1;cases hd1 _ rfl
  exact .thenN<|.hE (A4,c4,A5,c5) rfl (zl [0,0,0] 1 rfl)
 rintro ⟨A6,c6,A7,c7⟩;refine .seq<|.ab [0,7,42,43,44] rfl<|.asrt (fun _ w=>w.nilL zP 123)<|.bd h fun o2 hl2 h=>.cutK 6 (fun (e4:Option Addr × Nat × Option Addr × Nat)=>[0,7]) (fun e4=>[.ro (SlL eu8 e4.2.2.1 e4.2.2.2 o2.2.1), .res (zL zP 123 e4.1 e4.2.1 o2.1),2, .res (Box g1 46 [.slice A6 o1.1.length c6, .slice e4.1 o2.1.length e4.2.1]), .res (Box gb1 127 [.slice e4.2.2.1 o2.2.1.length e4.2.2.2, .int .i64 o2.2.2])]) rfl rfl ?_ ?_
 ·refine .block<|.loopQ hl2 6 (fun (s2:Int × List zX × List Int × Int) (e3:Option Addr × Nat × Option Addr × Nat)=>[0,7,42,43, .s 44 (.int .i64 s2.1)]) (fun s2 e3=>[.ro (SlL eu8 e3.2.2.1 e3.2.2.2 s2.2.2.1), .res (zL zP 123 e3.1 e3.2.1 s2.2.1),2, .res (Box g1 46 [.slice A6 o1.1.length c6, .slice e3.1 s2.2.1.length e3.2.1]),4, .res (Box gb1 127 [.slice e3.2.2.1 s2.2.2.1.length e3.2.2.2, .int .i64 s2.2.2.2])]) rfl rfl (none,0,A7,c7) (zb rfl) (zl [1] 0 rfl) ?_;rintro s2 ⟨A14,c14,A15,c15⟩ st2 hm2 hd2 h2;refine .ae rfl<|.seq<|.cb h2 rfl (fun h2=>?_) (fun h2=>?_)
  ·refine .sk<|.pr [0,7,42,43,44] rfl<|.seq<|.block<|.seq<|.region<|.bd h2 fun x2 hx2 h2=>.ix1 hx2 4 rfl fun b2 ob2=>.ld ob2 0 0 rfl<|.alloc rfl rfl fun g5=>.sb 0 0 rfl<|.bf [0,7,11,42,43,44] [0] 1 rfl rfl<|.a 1 rfl<|.bd h2 fun r4 hr4 h2=>.cr 8 [2] [6] 0 (yN hr4) jT rfl fun A18 c18=>.bf [0,7,11,42,43,44,50] [0,0,0] 1 rfl rfl<|.cb h2 rfl (fun h2=>?_) (fun h2=>?_)
   ·refine .region<|.p rfl rfl<|.lb 1 5 rfl<|.lb 0 2 rfl<|.bS rfl fun g6=>.bd h2 fun l2 hl2 h2=>.app (E:=zP) hl2 rfl rfl rfl (.s (.s (.s (.s .z)))) rfl rfl rfl rfl rfl rfl rfl rfl (eU (.head _) rfl rfl) rfl rfl fun A19 c19=>.p rfl rfl<|.sb 1 6 rfl<|.done<|.blkN<|.thenN<|.pf [0,7,42,43,44] [0,0,1,1] 2 rfl rfl<|.region ?_;cases h2;exact .be rfl<|.ag (A19,c19,A18,c18) hm2 rfl (zl [2,1,2,0,1] 0 rfl)
   refine .skip<|.blkN<|.thenN<|.pf [0,7,42,43,44] [0,0] 1 rfl rfl<|.region ?_;cases h2;exact .be rfl<|.ag (A14,c14,A18,c18) hm2 rfl (zl [0,1,1,1,1] 0 rfl)
  refine .xq rfl ?_;cases h2;cases hd2 _ rfl
  exact .thenN<|.hE (A14,c14,A15,c15) rfl (zl [0,0,0,0] 1 rfl)
 rintro ⟨A16,c16,A17,c17⟩;refine .seq<|.bd h fun o3 hj1 h=>.cutK 5 (fun (e5:Option Addr × Nat × Option Addr × Nat × Option Addr × Nat)=>[0,7]) (fun e5=>[.ro (SlL eu8 e5.2.2.2.2.1 e5.2.2.2.2.2 o3.2.2.1), .res (zL zP 123 e5.2.2.1 e5.2.2.2.1 o3.2.1), .res (xB (yH yX) 58 e5.1 e5.2.1 o3.1), .res (Box g1 46 [.slice e5.1 o3.1.length e5.2.1, .slice e5.2.2.1 o3.2.1.length e5.2.2.2.1]), .res (Box gb1 127 [.slice e5.2.2.2.2.1 o3.2.2.1.length e5.2.2.2.2.2, .int .i64 o3.2.2.2])]) rfl rfl ?_ ?_
 ·refine .a 1 rfl<|.bd hj1 fun r5 hr5 hj1=>.cr 6 [1] [4] 0 (yN hr5) jT rfl fun A23 c23=>.bf [0,7,59] [0,0] 1 rfl rfl<|.block<|.ab [0,7,59,60] rfl<|.cb hj1 rfl (fun hj1=>?_) (fun hj1=>?_)
  ·refine .region<|.p rfl rfl<|.lb 0 4 rfl<|.p rfl rfl<|.bS rfl fun g7=>.p rfl rfl<|.bS rfl fun g8=>.bd hj1 fun l3 hl3 hj1=>.asrt (fun _ w=>(w.sl [1] 0 rfl).litL (E:=eu8) (e:=5) [1] rfl rfl)<|.asrt (fun _ w=>w.meltL)<|.appC (E:=(yH yX)) hl3 rfl rfl rfl (.s (.s (.s (.s (.s .z))))) rfl rfl rfl rfl rfl rfl rfl rfl (zDS (ls:=yX) [((⟨⟨#[122,122,122]⟩,(⟨1,0,0⟩:zJ), [1]⟩:zI),(((some ⟨g7,0,none⟩),([1]:List Int).length),()))] (.tail _ (.head _)) rfl rfl rfl ⟨(.head _),trivial⟩) rfl rfl fun A24 c24=>.p rfl rfl<|.sb 0 6 rfl<|.done<|.blkN ?_;cases hj1;exact .thenN<|.hE (A24,c24,A16,c16,A23,c23) rfl (zl [4,5,1,0] 2 rfl)
  refine .ab [0,7,70] rfl<|.cb hj1 rfl (fun hj1=>?_) (fun hj1=>?_)
  ·refine .region<|.p rfl rfl<|.lb 1 4 rfl<|.p rfl rfl<|.bS rfl fun g9=>.bd hj1 fun l4 hl4 hj1=>.app (E:=zP) hl4 rfl rfl rfl (.s (.s (.s .z))) rfl rfl rfl rfl rfl rfl rfl rfl (eU (.head _) rfl rfl) rfl rfl fun A25 c25=>.p rfl rfl<|.sb 1 5 rfl<|.done<|.blkN ?_;cases hj1;exact .thenN<|.hE (A6,c6,A25,c25,A23,c23) rfl (zl [3,1,3,0] 1 rfl)
  refine .skip<|.blkN ?_;cases hj1;exact .thenN<|.hE (A6,c6,A16,c16,A23,c23) rfl (zl [0,1,1,1] 0 rfl)
 rintro ⟨A20,c20,A21,c21,A22,c22⟩;refine .seq<|.region<|.lb 0 3 rfl<|.asrt (fun _ w=>(w.sl [2] 0 rfl).meltC)<|.asrt (fun _ w=>(w.sl [2] 0 rfl).meltL)<|.bd h fun r6 hr6 h=>.cr 6 [1,0] [] 0 (zEI hr6) zXt rfl fun A26 c26=>.bf [0,12] [0,2] 3 rfl rfl<|.seq<|.seq<|.bd h fun o4 hj2 h=>.cutK 3 (fun (e6:Option Addr × Nat)=>[0,12, .s 90 (.bool o4.1)]) (fun e6=>[.ro (SlL eu8 e6.1 e6.2 o4.2.1),0, .res (Box gb1 127 [.slice e6.1 o4.2.1.length e6.2, .int .i64 o4.2.2])]) rfl rfl ?_ ?_
 ·refine .region<|.p rfl rfl<|.bd hj2 fun r7 hr7 hj2=>.cr 4 [2] [2] 0 (yN hr7) jT rfl fun A28 c28=>.n 2 rfl<|.gs 86 hj2 rfl (fun hj2=>?_) (fun hj2=>?_)
  ·cases hj2;exact .be rfl<|.hE (A28,c28) rfl (zl [0,1,0] 1 rfl)
  cases hj2;exact .be rfl<|.hE (A28,c28) rfl (zl [0,1,0] 1 rfl)
 rintro ⟨A27,c27⟩;refine .cb h rfl (fun h=>?_) (fun h=>?_)
 ·refine .region<|.n 4 rfl<|.bd h fun r8 hr8 h=>.cr 4 [1] [2] 0 (yN hr8) jT rfl fun A29 c29=>.bd h fun x3 hx3 h=>.ix2 hx3 3 rfl fun g10 hA=>?_;subst hA;refine .ldO 0 hx3 rfl rfl (zm 3 rfl) rfl rfl<|.p rfl rfl<|.ix2 hx3 3 rfl fun g11 hA=>?_;cases hA;refine .bd h fun l5 hl5 h=>.stO 0 hx3 hl5 rfl rfl (.s (.s (.s .z))) rfl rfl rfl rfl rfl ?_;refine .ss 12 (tP hl5) ?_;refine .ss 91 (tP hl5) ?_;refine .ss 93 (tP hl5)<|.bf [12] [0,0,0] 1 rfl rfl<|.ab [6] rfl ?_;cases h;exact .rv rfl rfl ⟨A29,c29,(some ⟨g10,0,none⟩),c26,rfl,rfl⟩ (zk 3 1 [2] [2] 0 rfl)
 refine .sk<|.pr [12] rfl<|.ab [6] rfl ?_;cases h;exact .rv rfl rfl ⟨A27,c27,A26,c26,rfl,rfl⟩ (zk 3 1 [2] [2,1] 0 rfl)
theorem zOi:Ent Tryz.prog 24:=en Tryz.func24 (by kernel_rfl)
noncomputable def yW (a_p0:zC):Option (List zB):=
 bnd ((mkC 184 0 (a_p0.devices.length:Int):Option (List zB))) fun l1=>bnd (yE (τ:=List zB) (fun (s1:List zB × Int)=>bif decide (s1.2<(a_p0.devices.length:Int)) then (bnd (elt a_p0.devices s1.2) fun x1=>bnd (pQ x1) fun r1=>bnd (app 184 s1.1 [r1]) fun l2=>some (.next (l2,IntKind.wrap .i64 (s1.2+1)))) else (some (.done s1.1))) (l1,0)) fun o1=>some o1
theorem tX {a_p0 A1 c1 A2 c2 A3 c3 A4 c4 A5 c5 gb1 gb2 r} (h:yW a_p0=some r):
    Fun Tryz.prog 24 [.pointer (some ⟨gb1,0,none⟩)] [.ro (SlL zP A2 c2 a_p0.needs), .ro (SlL yP A3 c3 a_p0.load.Have), .ro (SlL eu8 A4 c4 a_p0.load.Data), .ro (SlL zZ A5 c5 a_p0.order), .res (Box gb1 144 (zG a_p0 gb2 A1 c1 A2 c2 A3 c3 A4 c4 A5 c5)), .res (xB (yH zE) 64 A1 c1 a_p0.devices)] (fun v F=>∃ A6 c6,v= .slice A6 r.length c6∧F= [.res (Box gb1 144 (zG a_p0 gb2 A1 c1 A2 c2 A3 c3 A4 c4 A5 c5)), .res (xB (yH zE) 64 A1 c1 a_p0.devices), .res (xB (yH zE) 64 A6 c6 r)]):=by
 refine Fun.intro Tryz.func24 rfl rfl rfl fun w R=>?_;refine .ab [0] rfl<|.a 3 rfl<|.lb 1 4 rfl<|.p rfl rfl<|.bd h fun l1 hl1 h=>.mkC (E:=(yH zE)) hl1 rfl rfl rfl rfl rfl rfl rfl rfl rfl rfl rfl fun g1=>.b [0,3] rfl<|.seq<|.a 3 rfl<|.lb 1 5 rfl<|.b [3,15,16,17] rfl<|.bd h fun o1 hl1 h=>.cutK 1 (fun (e2:Option Addr × Nat)=>[.s 3 (.slice e2.1 o1.length e2.2)]) (fun e2=>[.res (xB (yH zE) 64 e2.1 e2.2 o1)]) rfl rfl ?_ ?_
 ·refine .block<|.loopQ hl1 1 (fun (s1:List zB × Int) (e1:Option Addr × Nat)=>[.s 3 (.slice e1.1 s1.1.length e1.2),15,16, .s 17 (.int .i64 s1.2)]) (fun s1 e1=>[.res (xB (yH zE) 64 e1.1 e1.2 s1.1)]) rfl rfl ((some ⟨g1,0,none⟩),(Int.toNat (a_p0.devices.length:Int))) (zb rfl) (fun _ w=>w) ?_;rintro s1 ⟨A6,c6⟩ st1 hm1 hd1 h1;refine .ae rfl<|.seq<|.cb h1 rfl (fun h1=>?_) (fun h1=>?_)
  ·refine .sk<|.pr [3,15,16,17] rfl<|.seq<|.block<|.seq<|.region<|.bd h1 fun x1 hx1 h1=>.ixC hx1 rfl rfl rfl (zm 6 rfl) rfl rfl rfl rfl rfl fun g2 hA=>?_;subst hA;refine .ldC (ls:=zE) 0 (fun ex=>.agg (zO x1 ex.1.1 ex.1.2 ex.2.1.1 ex.2.1.2).toArray) hx1 rfl rfl (zm 6 rfl) rfl (fun _=>rfl) fun ex1=>?_;obtain ⟨⟨A8,c8⟩,⟨⟨A9,c9⟩,_⟩⟩:=ex1;refine .nm 9 rfl<|.alloc rfl rfl fun g3=>.sb 0 0 rfl<|.b [3,5,15,16,17] rfl<|.region<|.p rfl rfl<|.lb 0 0 rfl<|.bd h1 fun r1 hr1 h1=>.ct 12 [1,2] [] 0 (bJ hr1) zUj rfl fun A10 c10 A11 c11=>.bS rfl fun g4=>.bd h1 fun l2 hl2 h1=>.appC (E:=(yH zE)) hl2 rfl rfl rfl (.s (.s (.s (.s (.s (.s .z)))))) rfl rfl rfl rfl rfl rfl rfl rfl (zDS (ls:=zE) [(r1,((A10,c10),((A11,c11),())))] (.head _) rfl rfl rfl ⟨(.tail _ (.head _)),(zm 2 rfl),trivial⟩) rfl rfl fun A12 c12=>.p rfl rfl<|.done<|.blkN<|.thenN<|.pf [3,15,16,17] [0] 6 rfl rfl<|.region ?_;cases h1;exact .be rfl<|.ag (A12,c12) hm1 rfl zw
  refine .xq rfl ?_;cases h1;cases hd1 _ rfl
  exact .thenN<|.hE (A6,c6) rfl zw
 rintro ⟨A7,c7⟩;refine .ab [2] rfl ?_;cases h;exact .rv rfl rfl ⟨A7,c7,rfl,rfl⟩ (zl [5,5,0] 4 rfl)
theorem zUB:Ent Tryz.prog 28:=en Tryz.func28 (by kernel_rfl)
noncomputable def rE (a_p0:zI) (b_p1:zI):Option Bool:=
 bnd ((bif (a_p0.Name.toList==b_p1.Name.toList) then (bif ((a_p0.Version.Major==b_p1.Version.Major)&&((a_p0.Version.Minor==b_p1.Version.Minor)&&((a_p0.Version.Patch==b_p1.Version.Patch)&&true))) then (some ((bZ a_p0.Data).toList==(bZ b_p1.Data).toList)) else (some false)) else (some false):Option Bool)) fun o1=>some o1
end Go.Proofs.YtplchdlgdjcojaaGreatDoor
end
section
namespace Go.Proofs.YtplchdlgdjcojaaGreatDoor
open Go
set_option linter.unusedVariables false
set_option maxHeartbeats 4000000
set_option maxRecDepth 4000
theorem fY {a_p0 b_p1 A1 c1 A2 c2 r} (h:rE a_p0 b_p1=some r):
    Fun Tryz.prog 28 [.agg (xC a_p0 A1 c1).toArray, .agg (xC b_p1 A2 c2).toArray] [.ro (SlL eu8 A1 c1 a_p0.Data), .ro (SlL eu8 A2 c2 b_p1.Data)] (Val (.bool r)):=by
 refine Fun.intro Tryz.func28 rfl rfl rfl fun w R=>?_;refine .seq<|.region<|.box rfl rfl fun g1=>.box rfl rfl fun g2=>.b [2,3] rfl<|.seq<|.bd h fun o1 hj1 h=>.cu 4 [.s 4 (.bool o1)] [] rfl rfl ?_ ?_
 ·refine .region<|.p rfl rfl<|.lb 0 1 rfl<|.p rfl rfl<|.lb 0 0 rfl<|.n 2 rfl<|.gs 10 hj1 rfl (fun hj1=>?_) (fun hj1=>?_)
  ·refine .n 1 rfl<|.gOn rfl rfl<|.lb 1 1 rfl<|.n 1 rfl<|.gOn rfl rfl<|.lb 1 0 rfl<|.n 3 rfl<|.gs 17 hj1 rfl (fun hj1=>?_) (fun hj1=>?_)
   ·refine .n 1 rfl<|.gOn rfl rfl<|.lb 4 1 rfl<|.gOn rfl rfl<|.b2s rfl rfl rfl rfl rfl rfl rfl rfl rfl (iB (E:=eu8) (.tail _ (.tail _ (.head _))))<|.n 1 rfl<|.gOn rfl rfl<|.lb 4 0 rfl<|.gOn rfl rfl<|.b2s rfl rfl rfl rfl rfl rfl rfl rfl rfl (iB (E:=eu8) (.tail _ (.tail _ (.tail _ (.head _))))) ?_;cases hj1;exact .be rfl<|.hU rfl (zl [] 4 rfl)
   cases hj1;exact .be rfl<|.hU rfl (zl [] 4 rfl)
  cases hj1;exact .be rfl<|.hU rfl (zl [] 4 rfl)
 cases h;exact .rv rfl rfl ⟨rfl,rfl⟩ zw
theorem zXs:Ent Tryz.prog 83:=en Tryz.func83 (by kernel_rfl)
noncomputable def hZ (a_p0:zB) (b_p1:zB):Option Bool:=
 bnd ((bif !(a_p0.Name.toList==b_p1.Name.toList) then (some true) else (bif (a_p0.Active != b_p1.Active) then (some true) else (bif (a_p0.Running != b_p1.Running) then (some true) else (some (!(a_p0.Trial==b_p1.Trial))))):Option Bool)) fun o1=>bif o1 then (some false) else (bnd ((bif (a_p0.Slots.e0.Sum != b_p1.Slots.e0.Sum) then (some true) else (bnd (rE a_p0.Slots.e0.Image b_p1.Slots.e0.Image) fun r1=>some (!r1)):Option Bool)) fun o2=>bif o2 then (some false) else (bnd ((bif (a_p0.Slots.e1.Sum != b_p1.Slots.e1.Sum) then (some true) else (bnd (rE a_p0.Slots.e1.Image b_p1.Slots.e1.Image) fun r2=>some (!r2)):Option Bool)) fun o3=>bif o3 then (some false) else (some true)))
theorem zIO {a_p0 b_p1 A1 c1 A2 c2 A3 c3 A4 c4 r} (h:hZ a_p0 b_p1=some r):
    Fun Tryz.prog 83 [.agg (zO a_p0 A1 c1 A2 c2).toArray, .agg (zO b_p1 A3 c3 A4 c4).toArray] [.ro (SlL eu8 A1 c1 a_p0.Slots.e0.Image.Data), .ro (SlL eu8 A2 c2 a_p0.Slots.e1.Image.Data), .ro (SlL eu8 A3 c3 b_p1.Slots.e0.Image.Data), .ro (SlL eu8 A4 c4 b_p1.Slots.e1.Image.Data)] (Val (.bool r)):=by
 refine Fun.intro Tryz.func83 rfl rfl rfl fun w R=>?_;refine .seq<|.region<|.box rfl rfl fun g1=>.box rfl rfl fun g2=>.b [2,3] rfl<|.seq<|.seq<|.bd h fun o1 hj1 h=>.cu 0 [2,3, .s 31 (.bool o1)] [] rfl rfl ?_ ?_
 ·refine .region<|.p rfl rfl<|.lb 0 1 rfl<|.p rfl rfl<|.lb 0 0 rfl<|.n 2 rfl<|.gs 11 hj1 rfl (fun hj1=>?_) (fun hj1=>?_)
  ·cases hj1;exact .be rfl<|.hU rfl zw
  refine .n 1 rfl<|.gOn rfl rfl<|.lb 13 1 rfl<|.n 1 rfl<|.gOn rfl rfl<|.lb 13 0 rfl<|.n 3 rfl<|.gs 18 hj1 rfl (fun hj1=>?_) (fun hj1=>?_)
  ·cases hj1;exact .be rfl<|.hU rfl zw
  refine .n 1 rfl<|.gOn rfl rfl<|.lb 14 1 rfl<|.n 1 rfl<|.gOn rfl rfl<|.lb 14 0 rfl<|.n 3 rfl<|.gs 25 hj1 rfl (fun hj1=>?_) (fun hj1=>?_)
  ·cases hj1;exact .be rfl<|.hU rfl zw
  refine .n 1 rfl<|.gOn rfl rfl<|.lb 15 1 rfl<|.n 1 rfl<|.gOn rfl rfl<|.lb 15 0 rfl ?_;cases hj1;exact .be rfl<|.hU rfl zw
 refine .cb h rfl (fun h=>?_) (fun h=>?_)
 ·refine .abf [4] [] 6 rfl rfl ?_;cases h;exact .rv rfl rfl ⟨rfl,rfl⟩ zw
 refine .sk<|.pr [2,3] rfl<|.seq<|.ae rfl<|.block<|.rounds 9<|.round<|.seq<|.ab [2,3,5,33] rfl<|.condT rfl<|.sk<|.pr [2,3,5] rfl<|.seq<|.block<|.seq<|.bd h fun o2 hj2 h=>.cu 0 [2,3,5, .s 60 (.bool o2)] [] rfl rfl ?_ ?_
 ·refine .regionF mixed (by kernel_rfl)<|.n 4 rfl<|.lb 6 1 rfl<|.n 4 rfl<|.lb 6 0 rfl<|.n 2 rfl<|.gs 47 hj2 rfl (fun hj2=>?_) (fun hj2=>?_)
  ·cases hj2;exact .beq rfl<|.hU rfl zw
  refine .n 4 rfl<|.gOn rfl rfl<|.lb 1 1 rfl<|.n 4 rfl<|.gOn rfl rfl<|.lb 1 0 rfl<|.gOn rfl rfl<|.bd hj2 fun r1 hr1 hj2=>.cv [2,4] (fY hr1) zUB rfl ?_;cases hj2;exact .beq rfl<|.hU rfl zw
 refine .cb h rfl (fun h=>?_) (fun h=>?_)
 ·refine .abf [4] [] 6 rfl rfl ?_;cases h;exact .rv rfl rfl ⟨rfl,rfl⟩ zw
 refine .skip<|.blkN<|.thenN<|.pr [2,3,5] rfl<|.region<|.be rfl<|.round<|.pr [2,3,5] rfl<|.seq<|.ab [2,3,5,33] rfl<|.condT rfl<|.sk<|.pr [2,3,5] rfl<|.seq<|.block<|.seq<|.bd h fun o3 hj3 h=>.cu 0 [2,3,5, .s 60 (.bool o3)] [] rfl rfl ?_ ?_
 ·refine .regionF mixed (by kernel_rfl)<|.n 4 rfl<|.lb 12 1 rfl<|.n 4 rfl<|.lb 12 0 rfl<|.n 2 rfl<|.gs 47 hj3 rfl (fun hj3=>?_) (fun hj3=>?_)
  ·cases hj3;exact .beq rfl<|.hU rfl zw
  refine .n 4 rfl<|.gOn rfl rfl<|.lb 7 1 rfl<|.n 4 rfl<|.gOn rfl rfl<|.lb 7 0 rfl<|.gOn rfl rfl<|.bd hj3 fun r2 hr2 hj3=>.cv [3,5] (fY hr2) zUB rfl ?_;cases hj3;exact .beq rfl<|.hU rfl zw
 refine .cb h rfl (fun h=>?_) (fun h=>?_)
 ·refine .abf [4] [] 6 rfl rfl ?_;cases h;exact .rv rfl rfl ⟨rfl,rfl⟩ zw
 refine .skip<|.blkN<|.thenN<|.pr [2,3,5] rfl<|.region<|.be rfl<|.round<|.pr [2,3,5] rfl<|.seq<|.ab [2,3,5,33] rfl<|.condF rfl<|.xq rfl<|.thenN<|.pf [] [] 6 rfl rfl<|.ae rfl ?_;cases h;exact .rv rfl rfl ⟨rfl,rfl⟩ zw
theorem zUr:Ent Tryz.prog 23:=en Tryz.func23 (by kernel_rfl)
noncomputable def uH (a_p0:(List zB)) (b_p1:(List zB)):Option Bool:=
 bif ((a_p0.length:Int) != (b_p1.length:Int)) then (some false) else (bnd (yE (τ:=Bool ⊕ Unit) (fun (s1:Int)=>bif decide (s1<(a_p0.length:Int)) then (bnd (elt a_p0 s1) fun x1=>bnd (elt b_p1 s1) fun x2=>bnd (hZ x1 x2) fun r1=>bif !r1 then (some (.done (.inl false))) else (some (.next (IntKind.wrap .i64 (s1+1))))) else (some (.done (.inr ())))) 0) fun o1=>wR o1 fun o2=>some true)
theorem bE {a_p0 b_p1 A1 c1 A2 c2 r} (h:uH a_p0 b_p1=some r):
    Fun Tryz.prog 23 [.slice A1 a_p0.length c1, .slice A2 b_p1.length c2] [.ro (Sl (yH zE) A1 c1 a_p0), .ro (Sl (yH zE) A2 c2 b_p1)] (Val (.bool r)):=by
 refine Fun.intro Tryz.func23 rfl rfl rfl fun w R=>?_;refine .ab [0,1] rfl<|.seq<|.ab [0,1,10] rfl<|.cb h rfl (fun h=>?_) (fun h=>?_)
 ·refine .abf [4] [] 2 rfl rfl ?_;cases h;exact .rv rfl rfl ⟨rfl,rfl⟩ zw
 refine .sk<|.pr [0,1] rfl<|.seq<|.ae rfl<|.bd h fun o1 hl1 h=>.cutJ 2 (fun (o2:Unit) (e2:Unit)=>[]) (fun o2 e2=>[]) rfl rfl (fun o2=>o1= .inr o2) ?_ ?_
 ·refine .block<|.loopQ hl1 0 (fun (s1:Int) (e1:Unit)=>[0,1, .s 5 (.int .i64 s1)]) (fun s1 e1=>[]) rfl rfl () (zb rfl) (fun _ w=>w) ?_;rintro s1 e1 st1 hm1 hd1 h1;refine .seq<|.ab [0,1,5,14] rfl<|.cb h1 rfl (fun h1=>?_) (fun h1=>?_)
  ·refine .sk<|.pr [0,1,5] rfl<|.seq<|.block<|.seq<|.regionF mixed (by kernel_rfl)<|.n 2 rfl<|.bd h1 fun x1 hx1 h1=>.ix3 hx1 0 rfl fun b1 ob1 ex1=>?_;obtain ⟨⟨A3,c3⟩,⟨⟨A4,c4⟩,_⟩⟩:=ex1;refine .nm 5 rfl<|.ld ob1 0 0 rfl<|.n 2 rfl<|.bd h1 fun x2 hx2 h1=>.ix3 hx2 4 rfl fun b2 ob2 ex2=>?_;obtain ⟨⟨A5,c5⟩,⟨⟨A6,c6⟩,_⟩⟩:=ex2;refine .nm 8 rfl<|.ld ob2 0 0 rfl<|.bd h1 fun r1 hr1 h1=>.cv [4,5,1,2] (zIO hr1) zXs rfl<|.beq rfl<|.pf [0,1,5,26] [] 6 rfl rfl<|.cb h1 rfl (fun h1=>?_) (fun h1=>?_)
   ·refine .abf [4] [] 2 rfl rfl ?_;cases h1;cases hd1 _ rfl
    have h:some _=some _:=h;cases h;exact .rv rfl rfl ⟨rfl,rfl⟩ zw
   refine .skip<|.blkN<|.thenN<|.pr [0,1,5] rfl<|.region ?_;cases h1;exact .be rfl<|.ag () hm1 rfl zw
  refine .xq rfl ?_;cases h1;cases hd1 _ rfl
  exact .thenN<|.hereI () () rfl trivial (zl [] 2 rfl)
 rintro o2 e2 ho;subst ho;have h:=unR h;refine .ae rfl ?_;cases h;exact .rv rfl rfl ⟨rfl,rfl⟩ zw
theorem zWD:Ent Tryz.prog 37:=en Tryz.func37 (by kernel_rfl)
noncomputable def jH (c_p0:xW):Option (xW × zA × zC × (List Int) × (List zX) × zD):=
 bnd (sQ c_p0 4) fun r1=>bnd (jL r1.1 r1.2) fun r2=>bnd (mR 2 1024) fun r3=>zKy r3.1 (bif (r3.2 != 0) then (none) else (none)) (fun q1=>bif (r3.2 != 0) then (none) else (bnd (wM q1 0) fun r4=>zKy r4.2.1 (none) (fun q2=>bnd (sC q2 r1.2 r2.2 r4.1) fun r5=>zKy r5.2.2.1 (bnd ((bif (r4.2.2 != 0) then (some true) else (some (r5.2.2.2 != 0)):Option Bool)) fun o1=>bif o1 then (none) else (bnd (pU r2.1 r1.2 r2.2) fun r6=>none)) (fun q3=>bnd ((bif (r4.2.2 != 0) then (some true) else (some (r5.2.2.2 != 0)):Option Bool)) fun o2=>bif o2 then (none) else (bnd (pU r2.1 r1.2 r2.2) fun r7=>some (r7.1,r5.2.1,q3,r7.2,r2.2,r5.1))))))
theorem zGy {c_p0 A1 c1 gb1 r} (h:jH c_p0=some r):
    Fun Tryz.prog 37 [.pointer (some ⟨gb1,0,none⟩)] [.ro (SlL eu8 A1 c1 c_p0.L), .ro (zDm 0 [(2,some 315),(3,some 316)]), .res (Box gb1 127 [.slice A1 c_p0.L.length c1, .int .i64 c_p0.At])] (fun v F=>∃ g1 g2 g3 A2 c2 A3 c3 A4 c4 A5 c5 A6 c6 A7 c7 A8 c8 A9 c9 A10 c10 A11 c11 M1,v= .tuple #[.pointer (some ⟨g1,0,none⟩), .pointer (some ⟨g2,0,none⟩), .slice A10 r.2.2.2.1.length c10, .slice A11 r.2.2.2.2.1.length c11]∧F= [.ro (SlL eu8 A2 c2 r.1.L), .ro (SlL zP A6 c6 r.2.2.1.needs), .ro (SlL yP A7 c7 r.2.2.1.load.Have), .ro (SlL eu8 A8 c8 r.2.2.1.load.Data), .ro (SlL zZ A9 c9 r.2.2.1.order), .ro (SlL zP A11 c11 r.2.2.2.2.1), .res (Box gb1 127 [.slice A2 r.1.L.length c2, .int .i64 r.1.At]), .res (Box g1 131 (zH r.2.1 A3 c3 A4 c4)), .res (zL eu8 5 A3 c3 r.2.1.bytes), .res (zL zZ 3 A4 c4 r.2.1.wear), .res (Box g2 144 (zG r.2.2.1 g3 A5 c5 A6 c6 A7 c7 A8 c8 A9 c9)), .res (xB (yH zE) 64 A5 c5 r.2.2.1.devices), .res (zL eu8 5 A10 c10 r.2.2.2.1), .res (Box g3 135 (zN r.2.2.2.2.2 g1 M1)), .res (yO (yA .u8) (cod eu8) M1 r.2.2.2.2.2.all)]):=by
 refine Fun.intro Tryz.func37 rfl rfl rfl fun w R=>?_;refine .ab [0] rfl<|.a 1 rfl<|.bd h fun r1 hr1 h=>.ct 5 [1] [2] 0 (bM hr1) zXe rfl fun A2 c2 A3 c3=>.bf [0,6] [0,0,0] 1 rfl rfl<|.a 2 rfl<|.asrt (fun _ w=>(w.sl [2] 0 rfl).meltC)<|.bd h fun r2 hr2 h=>.ct 6 [2,1] [2] 0 (zGu hr2) zWx rfl fun A4 c4 A5 c5=>.bf [0,6,7] [0,0,0,0] 1 rfl rfl<|.seq<|.region<|.bd h fun r3 hr3 h=>.call (zDE hr3) zUi rfl rfl rfl (fun _ w=>w) ?_
 intro v_ F_ hp_
 rcases hq1:r3.1 with _ | q1
 ·replace hp_:=zCP hq1 hp_;replace h:=zDl hq1 h;obtain ⟨rfl,rfl⟩:=hp_;refine .nm 5 rfl<|.b [0,6,7,8,9] rfl<|.seq<|.ab [0,6,7,8,23] rfl<|.cb h rfl (fun h=>?_) (fun h=>?_)
  ·refine .abf [2,3,4,5] [0,0] 2 rfl rfl ?_;cases h
  refine .sk<|.pr [0,6,7,8] rfl<|.a 1 rfl ?_;cases h
 replace hp_:=zDg hq1 hp_;replace h:=zCF hq1 h;obtain ⟨g1,A6,c6,A7,c7,rfl,rfl⟩:=hp_;refine .nm 8 rfl<|.b [0,6,7,8,9] rfl<|.seq<|.ab [0,6,7,8,23] rfl<|.cb h rfl (fun h=>?_) (fun h=>?_)
 ·refine .abf [2,3,4,5] [3,3] 5 rfl rfl ?_;cases h
 refine .sk<|.pr [0,6,7,8] rfl<|.a 1 rfl<|.bd h fun r4 hr4 h=>.call (bI hr4) zUn rfl rfl rfl (fun _ w=>w) ?_
 intro v_ F_ hp_
 rcases hq2:r4.2.1 with _ | q2
 ·replace hp_:=zCP hq2 hp_;replace h:=zDl hq2 h;obtain ⟨A8,c8,A9,c9,rfl,rfl⟩:=hp_;refine .nm 8 rfl<|.b [0,6,7,8,9,10] rfl<|.a 3 rfl ?_;cases h
 replace hp_:=zDg hq2 hp_;replace h:=zCF hq2 h;obtain ⟨g2,A10,c10,A11,c11,M1,rfl,rfl⟩:=hp_;refine .nm 10 rfl<|.b [0,6,7,8,9,10] rfl<|.a 3 rfl<|.asrt (fun _ w=>(w.sl [7] 0 rfl).meltL)<|.bd h fun r5 hr5 h=>.call (zAW (gb1:=g2) (gb2:=g1) hr5) zUu rfl rfl rfl (zd [8,5,9] [4,4,1,1,1] 0 rfl) ?_
 intro v_ F_ hp_
 rcases hq3:r5.2.2.1 with _ | q3
 ·replace hp_:=zCP hq3 hp_;replace h:=zDl hq3 h;obtain ⟨M2,A12,c12,A13,c13,rfl,rfl⟩:=hp_;refine .nm 10 rfl<|.bf [0,6,7,8,9,11,12] [] 2 rfl rfl<|.seq<|.seq<|.bd h fun o1 hj1 h=>.cu 0 [0,6,7,8,11, .s 41 (.bool o1)] [] rfl rfl ?_ ?_
  ·refine .region<|.n 3 rfl<|.gs 38 hj1 rfl (fun hj1=>?_) (fun hj1=>?_)
   ·cases hj1;exact .be rfl<|.hU rfl zw
   cases hj1;exact .be rfl<|.hU rfl zw
  refine .cb h rfl (fun h=>?_) (fun h=>?_)
  ·refine .abf [2,3,4,5] [4,4] 5 rfl rfl ?_;cases h
  refine .sk<|.pr [0,6,7,8,11] rfl<|.a 5 rfl<|.bd h fun r6 hr6 h=>.ct 10 [5,6,4] [5] 0 (zAO hr6) zUe rfl fun A21 c21 A22 c22=>.bf [2,3,4,5] [0,0,0,0,0,0,0] 2 rfl rfl ?_;cases h
 replace hp_:=zDg hq3 hp_;replace h:=zCF hq3 h;obtain ⟨g3,M3,A14,c14,A15,c15,A16,c16,A17,c17,A18,c18,A19,c19,A20,c20,rfl,rfl⟩:=hp_;refine .nm 16 rfl<|.b [0,6,7,8,9,11,12] rfl<|.seq<|.seq<|.bd h fun o2 hj2 h=>.cu 0 [0,6,7,8,11, .s 41 (.bool o2)] [] rfl rfl ?_ ?_
 ·refine .region<|.n 3 rfl<|.gs 38 hj2 rfl (fun hj2=>?_) (fun hj2=>?_)
  ·cases hj2;exact .be rfl<|.hU rfl zw
  cases hj2;exact .be rfl<|.hU rfl zw
 refine .cb h rfl (fun h=>?_) (fun h=>?_)
 ·refine .abf [2,3,4,5] [12,12] 13 rfl rfl ?_;cases h
 refine .sk<|.pr [0,6,7,8,11] rfl<|.a 5 rfl<|.bd h fun r7 hr7 h=>.ct 18 [13,14,12] [13] 0 (zAO hr7) zUe rfl fun A23 c23 A24 c24=>.bf [2,3,4,5] [0,0,0,0,0,0,0,0,0,0,0,0,0,0,0] 2 rfl rfl ?_;cases h;exact .rv rfl rfl ⟨g1,g3,g2,A23,c23,A14,c14,A15,c15,A16,c16,A17,c17,A18,c18,A19,c19,A20,c20,A24,c24,A5,c5,M3,rfl,rfl⟩ (zk 15 7 [9,10,11,12,13,14] [1,8,8,8,8,8,1,5,5] 0 rfl)
theorem zVg:Ent Tryz.prog 171:=en Tryz.func171 (by kernel_rfl)
noncomputable def rI (d_p0:yV) (most:Int):Option (List Int):=
 bnd (uR d_p0) fun r1=>bif !r1 then (some ([])) else (bnd (yE (τ:=List Int) (fun (s1:List Int × Int)=>bif decide (s1.2<(d_p0.Have.length:Int)) then (bnd (elt d_p0.Have s1.2) fun x1=>bnd ((bif !x1 then (some (decide ((s1.1.length:Int)<most))) else (some false):Option Bool)) fun o2=>bif o2 then (bnd (app 8 s1.1 [s1.2]) fun l1=>some (.next (l1,IntKind.wrap .i64 (s1.2+1)))) else (some (.next (s1.1,IntKind.wrap .i64 (s1.2+1))))) else (some (.done s1.1))) ([],0)) fun o1=>some o1)
theorem zBy {d_p0 most A1 c1 A2 c2 r} (h:rI d_p0 most=some r):
    Fun Tryz.prog 171 [.agg (uV d_p0 A1 c1 A2 c2).toArray, .int .i64 most] [.ro (SlL yP A1 c1 d_p0.Have), .ro (SlL eu8 A2 c2 d_p0.Data)] (fun v F=>∃ A3 c3,v= .slice A3 r.length c3∧F= [.res (zL zZ 3 A3 c3 r)]):=by
 refine Fun.intro Tryz.func171 rfl rfl rfl fun w R=>?_;refine .seq<|.region<|.box rfl rfl fun g1=>.b [1,2] rfl<|.seq<|.seq<|.region<|.lb 0 0 rfl<|.bd h fun r1 hr1 h=>.cv [1,2] (nK hr1) zIC rfl<|.b [1,2,10] rfl<|.cb h rfl (fun h=>?_) (fun h=>?_)
 ·refine .abf [4] [] 3 rfl rfl<|.asrt (fun _ w=>w.nilL zZ 3) ?_;cases h;exact .rv rfl rfl ⟨none,0,rfl,rfl⟩ zw
 refine .sk<|.pr [1,2] rfl<|.ae rfl<|.seq<|.a 1 rfl<|.lb 2 0 rfl<|.bf [1,5,12,13,14] [1] 2 rfl rfl<|.asrt (fun _ w=>w.nilL zZ 3)<|.bd h fun o1 hl1 h=>.cutK 2 (fun (e2:Option Addr × Nat)=>[.s 5 (.slice e2.1 o1.length e2.2)]) (fun e2=>[.res (zL zZ 3 e2.1 e2.2 o1)]) rfl rfl ?_ ?_
 ·refine .block<|.loopQ hl1 1 (fun (s1:List Int × Int) (e1:Option Addr × Nat)=>[1, .s 5 (.slice e1.1 s1.1.length e1.2),12,13, .s 14 (.int .i64 s1.2)]) (fun s1 e1=>[.res (zL zZ 3 e1.1 e1.2 s1.1)]) rfl rfl (none,0) (zb rfl) (fun _ w=>w) ?_;rintro s1 ⟨A3,c3⟩ st1 hm1 hd1 h1;refine .ae rfl<|.seq<|.cb h1 rfl (fun h1=>?_) (fun h1=>?_)
  ·refine .sk<|.pr [1,5,12,13,14] rfl<|.seq<|.block<|.a 1 rfl<|.bd h1 fun x1 hx1 h1=>.ix1 hx1 1 rfl fun b1 ob1=>.ld ob1 0 0 rfl<|.bf [1,5,6,7,12,13,14] [] 1 rfl rfl<|.seq<|.bd h1 fun o2 hj1 h1=>.cu 0 [1,5,6,12,13,14, .s 26 (.bool o2)] [] rfl rfl ?_ ?_
   ·refine .region<|.n 3 rfl<|.gs 21 hj1 rfl (fun hj1=>?_) (fun hj1=>?_)
    ·cases hj1;exact .be rfl<|.hU rfl zw
    cases hj1;exact .be rfl<|.hU rfl zw
   refine .cb h1 rfl (fun h1=>?_) (fun h1=>?_)
   ·refine .region<|.n 2 rfl<|.bS rfl fun g2=>.bd h1 fun l1 hl1 h1=>.app (E:=zZ) hl1 rfl rfl rfl (.s .z) rfl rfl rfl rfl rfl rfl rfl rfl (eU (.head _) rfl rfl) rfl rfl fun A5 c5=>.p rfl rfl<|.done<|.blkN<|.thenN<|.pf [1,5,12,13,14] [0] 1 rfl rfl<|.region ?_;cases h1;exact .be rfl<|.ag (A5,c5) hm1 rfl zw
   refine .skip<|.blkN<|.thenN<|.pr [1,5,12,13,14] rfl<|.region ?_;cases h1;exact .be rfl<|.ag (A3,c3) hm1 rfl zw
  refine .xq rfl ?_;cases h1;cases hd1 _ rfl
  exact .thenN<|.hE (A3,c3) rfl (zl [0] 1 rfl)
 rintro ⟨A4,c4⟩;refine .ab [4] rfl ?_;cases h;exact .rv rfl rfl ⟨A4,c4,rfl,rfl⟩ zw
theorem zWM:Ent Tryz.prog 95:=en Tryz.func95 (by kernel_rfl)
noncomputable def sS (a_p0:zC) (most:Int):Option (List Int):=
 bif (a_p0.phase != 1) then (some ([])) else (bnd (rI a_p0.load most) fun r1=>some r1)
theorem bQ {a_p0 most A1 c1 A2 c2 A3 c3 A4 c4 A5 c5 gb1 gb2 r} (h:sS a_p0 most=some r):
    Fun Tryz.prog 95 [.pointer (some ⟨gb1,0,none⟩), .int .i64 most] [.ro (SlL zP A2 c2 a_p0.needs), .ro (SlL yP A3 c3 a_p0.load.Have), .ro (SlL eu8 A4 c4 a_p0.load.Data), .ro (SlL zZ A5 c5 a_p0.order), .res (Box gb1 144 (zG a_p0 gb2 A1 c1 A2 c2 A3 c3 A4 c4 A5 c5)), .res (xB (yH zE) 64 A1 c1 a_p0.devices)] (fun v F=>∃ A6 c6,v= .slice A6 r.length c6∧F= [.res (Box gb1 144 (zG a_p0 gb2 A1 c1 A2 c2 A3 c3 A4 c4 A5 c5)), .res (xB (yH zE) 64 A1 c1 a_p0.devices), .res (zL zZ 3 A6 c6 r)]):=by
 refine Fun.intro Tryz.func95 rfl rfl rfl fun w R=>?_;refine .ab [0,1] rfl<|.seq<|.a 3 rfl<|.lb 3 4 rfl<|.b [0,1,9] rfl<|.cb h rfl (fun h=>?_) (fun h=>?_)
 ·refine .ab [4] rfl<|.asrt (fun _ w=>w.nilL zZ 3) ?_;cases h;exact .rv rfl rfl ⟨none,0,rfl,rfl⟩ (zl [5,5,0] 4 rfl)
 refine .sk<|.pr [0,1] rfl<|.a 3 rfl<|.lb 4 4 rfl<|.p rfl rfl<|.bd h fun r1 hr1 h=>.cr 7 [1,2] [] 0 (zBy hr1) zVg rfl fun A6 c6=>.b [4] rfl ?_;cases h;exact .rv rfl rfl ⟨A6,c6,rfl,rfl⟩ (zl [5,5,0] 4 rfl)
theorem zUF:Ent Tryz.prog 39:=en Tryz.func39 (by kernel_rfl)
noncomputable def rG (a_p0:zC) (b_p1:(List Int)):Option (zC × Bool):=
 bnd (yZ a_p0 (b_p1.length:Int) 64) fun r1=>bif (r1.2 != 0) then (some (r1.1,false)) else (bnd (yE (τ:=(zC × Bool) ⊕ zC) (fun (s1:zC × Int)=>bif decide ((IntKind.wrap .i64 (s1.2*64))<(b_p1.length:Int)) then (bnd (sub b_p1 (IntKind.wrap .i64 (s1.2*64)) (min (b_p1.length:Int) (IntKind.wrap .i64 ((IntKind.wrap .i64 (s1.2+1))*64)))) fun l1=>bnd (xH s1.1 s1.2 l1) fun r2=>bif (r2.2 != 0) then (some (.done (.inl (r2.1,false)))) else (some (.next (r2.1,IntKind.wrap .i64 (s1.2+1))))) else (some (.done (.inr s1.1)))) (r1.1,0)) fun o1=>wR o1 fun o2=>bnd (sS o2 1) fun r3=>some (o2,((r3.length:Int)==0)))
theorem zCk {a_p0 b_p1 A1 c1 A2 c2 A3 c3 A4 c4 A5 c5 A6 c6 gb1 gb2 r} (h:rG a_p0 b_p1=some r):
    Fun Tryz.prog 39 [.pointer (some ⟨gb1,0,none⟩), .slice A6 b_p1.length c6] [.ro (SlL zP A2 c2 a_p0.needs), .ro (SlL yP A3 c3 a_p0.load.Have), .ro (SlL eu8 A4 c4 a_p0.load.Data), .ro (SlL zZ A5 c5 a_p0.order), .ro (SlL eu8 A6 c6 b_p1), .ro (zDm 0 [(2,some 315),(3,some 316)]), .res (Box gb1 144 (zG a_p0 gb2 A1 c1 A2 c2 A3 c3 A4 c4 A5 c5)), .res (xB (yH zE) 64 A1 c1 a_p0.devices)] (fun v F=>∃ A7 c7 A8 c8 A9 c9 A10 c10 A11 c11,v= .bool r.2∧F= [.ro (SlL zP A8 c8 r.1.needs), .ro (SlL yP A9 c9 r.1.load.Have), .ro (SlL eu8 A10 c10 r.1.load.Data), .ro (SlL zZ A11 c11 r.1.order), .res (Box gb1 144 (zG r.1 gb2 A7 c7 A8 c8 A9 c9 A10 c10 A11 c11)), .res (xB (yH zE) 64 A7 c7 r.1.devices)]):=by
 refine Fun.intro Tryz.func39 rfl rfl rfl fun w R=>?_;refine .ab [0,1] rfl<|.seq<|.a 3 rfl<|.bd h fun r1 hr1 h=>.call (oS (gb1:=gb1) hr1) zSE rfl rfl rfl (zd [2,3,4,5,7] [6,6] 0 rfl) ?_;rintro _ _ ⟨A7,c7,A8,c8,A9,c9,A10,c10,A11,c11,rfl,rfl⟩;refine .nm 12 rfl<|.bf [0,1,10] [0,0,0,0,0,0] 4 rfl rfl<|.cb h rfl (fun h=>?_) (fun h=>?_)
 ·refine .abf [4] [0,0,0,0,0,0] 1 rfl rfl ?_;cases h;exact .rv rfl rfl ⟨A7,c7,A8,c8,A9,c9,A10,c10,A11,c11,rfl,rfl⟩ (zk 6 5 [2,3,4,5] [4,4] 0 rfl)
 refine .sk<|.pr [0,1] rfl<|.seq<|.ae rfl<|.bd h fun o1 hl1 h=>.cutJ 7 (fun (o2:zC) (e2:Option Addr × Nat × Option Addr × Nat × Option Addr × Nat × Option Addr × Nat × Option Addr × Nat)=>[0]) (fun o2 e2=>[.ro (SlL zZ e2.2.2.2.2.2.2.2.2.1 e2.2.2.2.2.2.2.2.2.2 o2.order), .ro (SlL eu8 e2.2.2.2.2.2.2.1 e2.2.2.2.2.2.2.2.1 o2.load.Data), .ro (SlL yP e2.2.2.2.2.1 e2.2.2.2.2.2.1 o2.load.Have), .ro (SlL zP e2.2.2.1 e2.2.2.2.1 o2.needs), .res (xB (yH zE) 64 e2.1 e2.2.1 o2.devices), .res (Box gb1 144 (zG o2 gb2 e2.1 e2.2.1 e2.2.2.1 e2.2.2.2.1 e2.2.2.2.2.1 e2.2.2.2.2.2.1 e2.2.2.2.2.2.2.1 e2.2.2.2.2.2.2.2.1 e2.2.2.2.2.2.2.2.2.1 e2.2.2.2.2.2.2.2.2.2))]) rfl rfl (fun o2=>o1= .inr o2) ?_ ?_
 ·refine .block<|.loopQ hl1 6 (fun (s1:zC × Int) (e1:Option Addr × Nat × Option Addr × Nat × Option Addr × Nat × Option Addr × Nat × Option Addr × Nat)=>[0,1, .s 5 (.int .i64 s1.2)]) (fun s1 e1=>[.ro (SlL zZ e1.2.2.2.2.2.2.2.2.1 e1.2.2.2.2.2.2.2.2.2 s1.1.order), .ro (SlL eu8 e1.2.2.2.2.2.2.1 e1.2.2.2.2.2.2.2.1 s1.1.load.Data), .ro (SlL yP e1.2.2.2.2.1 e1.2.2.2.2.2.1 s1.1.load.Have), .ro (SlL zP e1.2.2.1 e1.2.2.2.1 s1.1.needs), .res (xB (yH zE) 64 e1.1 e1.2.1 s1.1.devices), .res (Box gb1 144 (zG s1.1 gb2 e1.1 e1.2.1 e1.2.2.1 e1.2.2.2.1 e1.2.2.2.2.1 e1.2.2.2.2.2.1 e1.2.2.2.2.2.2.1 e1.2.2.2.2.2.2.2.1 e1.2.2.2.2.2.2.2.2.1 e1.2.2.2.2.2.2.2.2.2))]) rfl rfl (A7,c7,A8,c8,A9,c9,A10,c10,A11,c11) (zb rfl) (zl [3,2,1,0,1] 0 rfl) ?_;rintro s1 ⟨A12,c12,A13,c13,A14,c14,A15,c15,A16,c16⟩ st1 hm1 hd1 h1;refine .seq<|.ab [0,1,5,15] rfl<|.cb h1 rfl (fun h1=>?_) (fun h1=>?_)
  ·refine .sk<|.pr [0,1,5] rfl<|.seq<|.block<|.a 11 rfl<|.bd h1 fun l1 hl1 h1=>.sub (E:=(cod eu8)) rfl rfl (zm 6 rfl) rfl rfl rfl rfl rfl rfl rfl hl1 fun A22 c22=>.bd h1 fun r2 hr2 h1=>.call (tU (gb1:=gb1) hr2) zKq rfl rfl rfl (zd [6,5,4,3,2] [6,5] 0 rfl) ?_;rintro _ _ ⟨A23,c23,A24,c24,A25,c25,A26,c26,A27,c27,rfl,rfl⟩;refine .nm 13 rfl<|.bf [0,1,5,31] [0,0,0,0,0,0] 5 rfl rfl<|.cb h1 rfl (fun h1=>?_) (fun h1=>?_)
   ·refine .abf [4] [0,0,0,0,0,0] 1 rfl rfl ?_;cases h1;cases hd1 _ rfl
    have h:some _=some _:=h;cases h;exact .rv rfl rfl ⟨A23,c23,A24,c24,A25,c25,A26,c26,A27,c27,rfl,rfl⟩ (zk 6 5 [2,3,4,5] [4,4] 0 rfl)
   refine .skip<|.blkN<|.thenN<|.pr [0,1,5] rfl<|.region ?_;cases h1;exact .be rfl<|.ag (A23,c23,A24,c24,A25,c25,A26,c26,A27,c27) hm1 rfl (zl [3,2,1,0,1] 0 rfl)
  refine .xq rfl ?_;cases h1;cases hd1 _ rfl
  exact .thenN<|.hereI s1.1 (A12,c12,A13,c13,A14,c14,A15,c15,A16,c16) rfl (zb rfl) (zl [0,0,0,0,0,0] 1 rfl)
 rintro o2 ⟨A17,c17,A18,c18,A19,c19,A20,c20,A21,c21⟩ ho;subst ho;have h:=unR h;refine .a 1 rfl<|.bd h fun r3 hr3 h=>.cr 8 [5,4,3,2] [5,4] 0 (bQ (gb1:=gb1) hr3) zWM rfl fun A28 c28=>.bf [4] [0,0] 1 rfl rfl ?_;cases h;exact .rv rfl rfl ⟨A17,c17,A18,c18,A19,c19,A20,c20,A21,c21,rfl,rfl⟩ (zk 6 5 [5,4,3,2] [] 0 rfl)
end Go.Proofs.YtplchdlgdjcojaaGreatDoor
end
section
namespace Go.Proofs.YtplchdlgdjcojaaGreatDoor
open Go
set_option linter.unusedVariables false
set_option maxHeartbeats 4000000
set_option maxRecDepth 4000
theorem zRV:Ent Tryz.prog 49:=en Tryz.func49 (by kernel_rfl)
noncomputable def wH (a_p0:zC):Option (zC × Int):=
 bif (a_p0.phase != 1) then (some (a_p0,46)) else (some ((⟨a_p0.store,a_p0.devices,a_p0.needs,0,(⟨0,0, [], []⟩:yV),a_p0.before,a_p0.order⟩:zC),0))
theorem oV {a_p0 A1 c1 A2 c2 A3 c3 A4 c4 A5 c5 gb1 gb2 r} (h:wH a_p0=some r):
    Fun Tryz.prog 49 [.pointer (some ⟨gb1,0,none⟩)] [.ro (SlL zP A2 c2 a_p0.needs), .ro (SlL yP A3 c3 a_p0.load.Have), .ro (SlL eu8 A4 c4 a_p0.load.Data), .ro (SlL zZ A5 c5 a_p0.order), .res (Box gb1 144 (zG a_p0 gb2 A1 c1 A2 c2 A3 c3 A4 c4 A5 c5)), .res (xB (yH zE) 64 A1 c1 a_p0.devices)] (fun v F=>∃ A6 c6 A7 c7 A8 c8 A9 c9 A10 c10,v= .int .i64 r.2∧F= [.ro (SlL zP A7 c7 r.1.needs), .ro (SlL yP A8 c8 r.1.load.Have), .ro (SlL eu8 A9 c9 r.1.load.Data), .ro (SlL zZ A10 c10 r.1.order), .res (Box gb1 144 (zG r.1 gb2 A6 c6 A7 c7 A8 c8 A9 c9 A10 c10)), .res (xB (yH zE) 64 A6 c6 r.1.devices)]):=by
 refine Fun.intro Tryz.func49 rfl rfl rfl fun w R=>?_;refine .ab [0] rfl<|.seq<|.a 3 rfl<|.lb 3 4 rfl<|.b [0,7] rfl<|.cb h rfl (fun h=>?_) (fun h=>?_)
 ·refine .ab [2] rfl ?_;cases h;exact .rv rfl rfl ⟨A1,c1,A2,c2,A3,c3,A4,c4,A5,c5,rfl,rfl⟩ (zk 6 4 [2,3,4,5] [4,4] 0 rfl)
 refine .sk<|.pr [0] rfl<|.a 5 rfl<|.sb 4 4 rfl<|.n 2 rfl<|.sb 3 0 rfl<|.bf [] [0,0] 2 rfl rfl<|.ae rfl<|.asrt (fun _ w=>w.nilSl (cod yP))<|.asrt (fun _ w=>w.nilSl (cod eu8)) ?_;cases h;exact .rv rfl rfl ⟨A1,c1,A2,c2,none,0,none,0,A5,c5,rfl,rfl⟩ (zk 6 4 [4,3,2,5] [2,4] 0 rfl)
noncomputable def oC (codes:(List Int)) (raw:(List Int)) (size:Int):Option Bool:=
 bnd (jF) fun r1=>bif !r1 then (some false) else (bif decide ((raw.length:Int)>300) then (some true) else (bnd (fL codes 200) fun r2=>bnd (jH r2) fun r3=>bnd ((bnd (yL r3.2.2.1 r3.2.2.2.2.2 r3.2.1) fun r4=>bif (r4.2.2.2 != 46) then (some (true,r4.2.2.1,r4.1,r4.2.1)) else (bnd (wH r4.1) fun r5=>bif (r5.2 != 46) then (some (true,r4.2.2.1,r5.1,r4.2.1)) else (bnd (xH r5.1 0 raw) fun r6=>some ((r6.2 != 46),r4.2.2.1,r6.1,r4.2.1))):Option (Bool × zA × zC × zD))) fun o1=>bif o1.1 then (some false) else (bnd (yW o1.2.2.1) fun r7=>bnd ((bnd ((bif decide ((raw.length:Int)>0) then (bnd (rG o1.2.2.1 raw) fun r8=>some (r8.2,r8.1)) else (some (false,o1.2.2.1)):Option (Bool × zC))) fun o4=>bif o4.1 then (bnd (rA raw) fun r9=>bnd ((bif (r9.2 != 0) then (bnd (yL o4.2 o1.2.2.2 o1.2.1) fun r10=>bif (r10.2.2.2 != r9.2) then (some (r7,true,r10.1,r10.2.2.1,r10.2.1)) else (bnd (xO r10.1) fun r11=>bif (r11 != 1) then (some (r7,true,r10.1,r10.2.2.1,r10.2.1)) else (bnd (yW r10.1) fun r12=>bnd (uH r12 r7) fun r13=>some (r7,!r13,r10.1,r10.2.2.1,r10.2.1)))) else (some (r7,false,o4.2,o1.2.1,o1.2.2.2)):Option (List zB × Bool × zC × zA × zD))) fun o5=>bif o5.2.1 then (some (.inl false)) else (some (.inr (o5.1,o5.2.2.1,o5.2.2.2.1,o5.2.2.2.2)))) else (some (.inr (r7,o4.2,o1.2.1,o1.2.2.2))):Option (Bool ⊕ (List zB × zC × zA × zD)))) fun o2=>wR o2 fun o3=>bnd ((bnd (xO o3.2.1) fun r14=>bif (r14==2) then (some (true,o3.2.1)) else (bnd (rG o3.2.1 r3.2.2.2.1) fun r15=>some (!r15.2,r15.1)):Option (Bool × zC))) fun o6=>bif o6.1 then (some true) else (bnd (yL o6.2 o3.2.2.2 o3.2.2.1) fun r16=>bif (r16.2.2.2 != 0) then (bnd ((bnd (xO r16.1) fun r17=>bif (r17==1) then (bnd (yW r16.1) fun r18=>bnd (uH r18 o3.1) fun r19=>bif r19 then (bnd (wH r16.1) fun r20=>bif (r20.2==0) then (bnd (xO r20.1) fun r21=>some ((r21==0),r20.1)) else (some (false,r20.1))) else (some (false,r16.1))) else (some (false,r16.1)):Option (Bool × zC))) fun o7=>some o7.1) else (bnd (xO r16.1) fun r22=>bif (r22==0) then (some true) else (bnd (vG size 9) fun r23=>bnd (yW r16.1) fun r24=>bnd (yE (τ:=Bool ⊕ Unit) (fun (s1:Int)=>bif decide (s1<(r24.length:Int)) then (bnd (elt r24 s1) fun x1=>bnd (uC x1) fun r25=>bif !r25 then (some (.done (.inl false))) else (some (.next (IntKind.wrap .i64 (s1+1))))) else (some (.done (.inr ())))) 0) fun o8=>wR o8 fun o9=>bnd ((bnd (yZ r16.1 size 9) fun r26=>bif (r26.2==46) then (bnd (xH r26.1 0 raw) fun r27=>bif (r27.2==46) then (bnd (wH r27.1) fun r28=>bif (r28.2==46) then (bnd (yL r28.1 r16.2.1 r16.2.2.1) fun r29=>bif (r29.2.2.2==46) then (bif (r23.2==0) then (some (true,r29.1,r29.2.1,r29.2.2.1)) else (some ((r23.2==2),r29.1,r29.2.1,r29.2.2.1))) else (some (false,r29.1,r29.2.1,r29.2.2.1))) else (some (false,r28.1,r16.2.1,r16.2.2.1))) else (some (false,r27.1,r16.2.1,r16.2.2.1))) else (some (false,r26.1,r16.2.1,r16.2.2.1)):Option (Bool × zC × zD × zA))) fun o10=>some o10.1))))))
theorem bR {codes raw size A1 c1 A2 c2 r} (h:oC codes raw size=some r):
    Fun Tryz.prog 8 [.slice A1 codes.length c1, .slice A2 raw.length c2, .int .i64 size] [.ro (SlL eu8 A1 c1 codes), .ro (SlL eu8 A2 c2 raw), .ro (zDm 0 [(2,some 315),(3,some 316)])] (Val (.bool r)):=by
 refine Fun.intro Tryz.func8 rfl rfl rfl fun w R=>?_;refine .ab [0,1,2] rfl<|.seq<|.seq<|.region<|.bd h fun r1 hr1 h=>.cv [2] (zGC hr1) zXo rfl<|.b [0,1,2,21] rfl<|.cb h rfl (fun h=>?_) (fun h=>?_)
 ·refine .abf [6] [] 2 rfl rfl ?_;cases h;exact .rv rfl rfl ⟨rfl,rfl⟩ (zl [] 1 rfl)
 refine .sk<|.pr [0,1,2] rfl<|.seq<|.ab [0,1,2,24] rfl<|.cb h rfl (fun h=>?_) (fun h=>?_)
 ·refine .abf [6] [] 2 rfl rfl ?_;cases h;exact .rv rfl rfl ⟨rfl,rfl⟩ (zl [] 1 rfl)
 refine .sk<|.pr [0,1,2] rfl<|.a 1 rfl<|.bd h fun r2 hr2 h=>.call (zKo hr2) zXj rfl rfl rfl (zd [0] [] 0 rfl) ?_;rintro _ _ ⟨g1,A3,c3,rfl,rfl⟩;refine .nm 5 rfl<|.bf [1,2,7] [0,0] 1 rfl rfl<|.a 1 rfl<|.bd h fun r3 hr3 h=>.call (zGy hr3) zWD rfl rfl rfl (zd [1,3] [1] 0 rfl) ?_;rintro _ _ ⟨g2,g3,g4,A4,c4,A5,c5,A6,c6,A7,c7,A8,c8,A9,c9,A10,c10,A11,c11,A12,c12,A13,c13,M1,rfl,rfl⟩;refine .nm 18 rfl<|.bf [1,2,9,10] [1,1,1,1,3,3,3,3,3,3,3,3] 4 rfl rfl<|.seq<|.seq<|.bd h fun o1 hj1 h=>.cutK 12 (fun (e1:Option Addr × Nat × Option Addr × Nat × Option Addr × Nat × Option Addr × Nat × Option Addr × Nat × Option Addr × Nat × Option Addr × Nat × Option Nat)=>[1,2,9,10, .s 51 (.bool o1.1)]) (fun e1=>[.res (yO (yA .u8) (cod eu8) e1.2.2.2.2.2.2.2.2.2.2.2.2.2.2 o1.2.2.2.all), .ro (SlL zZ e1.2.2.2.2.2.2.2.2.2.2.2.2.1 e1.2.2.2.2.2.2.2.2.2.2.2.2.2.1 o1.2.2.1.order), .ro (SlL eu8 e1.2.2.2.2.2.2.2.2.2.2.1 e1.2.2.2.2.2.2.2.2.2.2.2.1 o1.2.2.1.load.Data), .ro (SlL yP e1.2.2.2.2.2.2.2.2.1 e1.2.2.2.2.2.2.2.2.2.1 o1.2.2.1.load.Have), .ro (SlL zP e1.2.2.2.2.2.2.1 e1.2.2.2.2.2.2.2.1 o1.2.2.1.needs), .res (xB (yH zE) 64 e1.2.2.2.2.1 e1.2.2.2.2.2.1 o1.2.2.1.devices), .res (zL zZ 3 e1.2.2.1 e1.2.2.2.1 o1.2.1.wear), .res (zL eu8 5 e1.1 e1.2.1 o1.2.1.bytes), .res (Box g2 131 (zH o1.2.1 e1.1 e1.2.1 e1.2.2.1 e1.2.2.2.1)), .res (Box g3 144 (zG o1.2.2.1 g4 e1.2.2.2.2.1 e1.2.2.2.2.2.1 e1.2.2.2.2.2.2.1 e1.2.2.2.2.2.2.2.1 e1.2.2.2.2.2.2.2.2.1 e1.2.2.2.2.2.2.2.2.2.1 e1.2.2.2.2.2.2.2.2.2.2.1 e1.2.2.2.2.2.2.2.2.2.2.2.1 e1.2.2.2.2.2.2.2.2.2.2.2.2.1 e1.2.2.2.2.2.2.2.2.2.2.2.2.2.1)),9, .res (Box g4 135 (zN o1.2.2.2 g2 e1.2.2.2.2.2.2.2.2.2.2.2.2.2.2))]) rfl rfl ?_ ?_
 ·refine .region<|.n 4 rfl<|.gOn rfl rfl<|.bd hj1 fun r4 hr4 hj1=>.call (uQ (gb1:=g3) (gb2:=g4) (gb3:=g2) hr4) zJW rfl rfl rfl (zd [7,8,9,10] [7,7,8,8,4,4,4] 0 rfl) ?_;rintro _ _ ⟨A21,c21,A22,c22,A23,c23,A24,c24,A25,c25,M3,A26,c26,A27,c27,rfl,rfl⟩;refine .nm 18 rfl<|.n 3 rfl<|.gs 41 hj1 rfl (fun hj1=>?_) (fun hj1=>?_)
  ·cases hj1;exact .be rfl<|.hE (A26,c26,A27,c27,A21,c21,A22,c22,A23,c23,A24,c24,A25,c25,M3) rfl (zl [7,3,2,1,0,1,4,3,2,0,5,0] 4 rfl)
  refine .n 1 rfl<|.gOn rfl rfl<|.bd hj1 fun r5 hr5 hj1=>.call (oV (gb1:=g3) hr5) zRV rfl rfl rfl (zd [2,3,4,5] [4,4] 0 rfl) ?_;rintro _ _ ⟨A28,c28,A29,c29,A30,c30,A31,c31,A32,c32,rfl,rfl⟩;refine .nm 22 rfl<|.n 3 rfl<|.gs 46 hj1 rfl (fun hj1=>?_) (fun hj1=>?_)
  ·cases hj1;exact .be rfl<|.hE (A26,c26,A27,c27,A28,c28,A29,c29,A30,c30,A31,c31,A32,c32,M3) rfl (zl [11,3,2,1,0,1,8,7,6,0,9,4] 8 rfl)
  refine .n 2 rfl<|.gOn rfl rfl<|.bd hj1 fun r6 hr6 hj1=>.call (tU (gb1:=g3) hr6) zKq rfl rfl rfl (zd [2,3,4,5,20] [4,4] 0 rfl) ?_;rintro _ _ ⟨A33,c33,A34,c34,A35,c35,A36,c36,A37,c37,rfl,rfl⟩;refine .nm 26 rfl ?_;cases hj1;exact .be rfl<|.hE (A26,c26,A27,c27,A33,c33,A34,c34,A35,c35,A36,c36,A37,c37,M3) rfl (zl [15,3,2,1,0,1,12,11,10,0,13,8] 12 rfl)
 rintro ⟨A14,c14,A15,c15,A16,c16,A17,c17,A18,c18,A19,c19,A20,c20,M2⟩;refine .cb h rfl (fun h=>?_) (fun h=>?_)
 ·refine .abf [6] [] 13 rfl rfl ?_;cases h;exact .rv rfl rfl ⟨rfl,rfl⟩ (zl [] 1 rfl)
 refine .sk<|.pr [1,2,9,10] rfl<|.a 1 rfl<|.bd h fun r7 hr7 h=>.cr 15 [6,5,4,3] [9,5] 0 (tX (gb1:=g3) hr7) zOi rfl fun A38 c38=>.b [1,2,9,10,12] rfl<|.seq<|.bd h fun o2 hj2 h=>.cutJ 13 (fun (o3:List zB × zC × zA × zD) (e2:Option Addr × Nat × Option Addr × Nat × Option Addr × Nat × Option Addr × Nat × Option Addr × Nat × Option Addr × Nat × Option Addr × Nat × Option Addr × Nat × Option Nat)=>[1,2,9,10, .s 12 (.slice e2.1 o3.1.length e2.2.1)]) (fun o3 e2=>[.res (yO (yA .u8) (cod eu8) e2.2.2.2.2.2.2.2.2.2.2.2.2.2.2.2.2 o3.2.2.2.all), .res (zL zZ 3 e2.2.2.2.2.2.2.2.2.2.2.2.2.2.2.1 e2.2.2.2.2.2.2.2.2.2.2.2.2.2.2.2.1 o3.2.2.1.wear), .res (zL eu8 5 e2.2.2.2.2.2.2.2.2.2.2.2.2.1 e2.2.2.2.2.2.2.2.2.2.2.2.2.2.1 o3.2.2.1.bytes), .ro (SlL zZ e2.2.2.2.2.2.2.2.2.2.2.1 e2.2.2.2.2.2.2.2.2.2.2.2.1 o3.2.1.order), .ro (SlL eu8 e2.2.2.2.2.2.2.2.2.1 e2.2.2.2.2.2.2.2.2.2.1 o3.2.1.load.Data), .ro (SlL yP e2.2.2.2.2.2.2.1 e2.2.2.2.2.2.2.2.1 o3.2.1.load.Have), .ro (SlL zP e2.2.2.2.2.1 e2.2.2.2.2.2.1 o3.2.1.needs), .res (xB (yH zE) 64 e2.2.2.1 e2.2.2.2.1 o3.2.1.devices), .ro (Sl (yH zE) e2.1 e2.2.1 o3.1), .res (Box g3 144 (zG o3.2.1 g4 e2.2.2.1 e2.2.2.2.1 e2.2.2.2.2.1 e2.2.2.2.2.2.1 e2.2.2.2.2.2.2.1 e2.2.2.2.2.2.2.2.1 e2.2.2.2.2.2.2.2.2.1 e2.2.2.2.2.2.2.2.2.2.1 e2.2.2.2.2.2.2.2.2.2.2.1 e2.2.2.2.2.2.2.2.2.2.2.2.1)), .res (Box g2 131 (zH o3.2.2.1 e2.2.2.2.2.2.2.2.2.2.2.2.2.1 e2.2.2.2.2.2.2.2.2.2.2.2.2.2.1 e2.2.2.2.2.2.2.2.2.2.2.2.2.2.2.1 e2.2.2.2.2.2.2.2.2.2.2.2.2.2.2.2.1)),11, .res (Box g4 135 (zN o3.2.2.2 g2 e2.2.2.2.2.2.2.2.2.2.2.2.2.2.2.2.2))]) rfl rfl (fun o3=>o2= .inr o3) ?_ ?_
 ·refine .seq<|.bd hj2 fun o4 hj3 hj2=>.cutK 8 (fun (e3:Option Addr × Nat × Option Addr × Nat × Option Addr × Nat × Option Addr × Nat × Option Addr × Nat)=>[1,2,9,10,12, .s 61 (.bool o4.1)]) (fun e3=>[.ro (SlL zZ e3.2.2.2.2.2.2.2.2.1 e3.2.2.2.2.2.2.2.2.2 o4.2.order), .ro (SlL eu8 e3.2.2.2.2.2.2.1 e3.2.2.2.2.2.2.2.1 o4.2.load.Data), .ro (SlL yP e3.2.2.2.2.1 e3.2.2.2.2.2.1 o4.2.load.Have), .ro (SlL zP e3.2.2.1 e3.2.2.2.1 o4.2.needs), .res (xB (yH zE) 64 e3.1 e3.2.1 o4.2.devices), .res (Box g3 144 (zG o4.2 g4 e3.1 e3.2.1 e3.2.2.1 e3.2.2.2.1 e3.2.2.2.2.1 e3.2.2.2.2.2.1 e3.2.2.2.2.2.2.1 e3.2.2.2.2.2.2.2.1 e3.2.2.2.2.2.2.2.2.1 e3.2.2.2.2.2.2.2.2.2)),2,3]) rfl rfl ?_ ?_
  ·refine .region<|.n 4 rfl<|.gs 57 hj3 rfl (fun hj3=>?_) (fun hj3=>?_)
   ·refine .n 2 rfl<|.gOn rfl rfl<|.bd hj3 fun r8 hr8 hj3=>.call (zCk (gb1:=g3) hr8) zUF rfl rfl rfl (zd [7,6,5,4,13,14] [] 0 rfl) ?_;rintro _ _ ⟨A52,c52,A53,c53,A54,c54,A55,c55,A56,c56,rfl,rfl⟩;refine .nm 19 rfl ?_;cases hj3;exact .be rfl<|.hE (A52,c52,A53,c53,A54,c54,A55,c55,A56,c56) rfl (zl [3,2,1,0,1,0,0,0] 4 rfl)
   cases hj3;exact .be rfl<|.hE (A16,c16,A17,c17,A18,c18,A19,c19,A20,c20) rfl (zl [4,4,4,4,1] 0 rfl)
  rintro ⟨A47,c47,A48,c48,A49,c49,A50,c50,A51,c51⟩;refine .cb hj2 rfl (fun hj2=>?_) (fun hj2=>?_)
  ·refine .a 1 rfl<|.bd hj2 fun r9 hr9 hj2=>.ct 17 [13] [] 0 (bG hr9) zUo rfl fun A57 c57 A58 c58=>.n 3 rfl<|.alloc rfl rfl fun g5=>.sb 0 0 rfl<|.bf [1,2,9,10,12,14] [] 3 rfl rfl<|.seq<|.bd hj2 fun o5 hj4 hj2=>.cutK 13 (fun (e4:Option Addr × Nat × Option Addr × Nat × Option Addr × Nat × Option Addr × Nat × Option Addr × Nat × Option Addr × Nat × Option Addr × Nat × Option Addr × Nat × Option Nat)=>[1,2,9,10, .s 12 (.slice e4.1 o5.1.length e4.2.1), .s 86 (.bool o5.2.1)]) (fun e4=>[.res (yO (yA .u8) (cod eu8) e4.2.2.2.2.2.2.2.2.2.2.2.2.2.2.2.2 o5.2.2.2.2.all), .res (zL zZ 3 e4.2.2.2.2.2.2.2.2.2.2.2.2.2.2.1 e4.2.2.2.2.2.2.2.2.2.2.2.2.2.2.2.1 o5.2.2.2.1.wear), .res (zL eu8 5 e4.2.2.2.2.2.2.2.2.2.2.2.2.1 e4.2.2.2.2.2.2.2.2.2.2.2.2.2.1 o5.2.2.2.1.bytes), .ro (SlL zZ e4.2.2.2.2.2.2.2.2.2.2.1 e4.2.2.2.2.2.2.2.2.2.2.2.1 o5.2.2.1.order), .ro (SlL eu8 e4.2.2.2.2.2.2.2.2.1 e4.2.2.2.2.2.2.2.2.2.1 o5.2.2.1.load.Data), .ro (SlL yP e4.2.2.2.2.2.2.1 e4.2.2.2.2.2.2.2.1 o5.2.2.1.load.Have), .ro (SlL zP e4.2.2.2.2.1 e4.2.2.2.2.2.1 o5.2.2.1.needs), .res (xB (yH zE) 64 e4.2.2.1 e4.2.2.2.1 o5.2.2.1.devices), .ro (Sl (yH zE) e4.1 e4.2.1 o5.1), .res (Box g3 144 (zG o5.2.2.1 g4 e4.2.2.1 e4.2.2.2.1 e4.2.2.2.2.1 e4.2.2.2.2.2.1 e4.2.2.2.2.2.2.1 e4.2.2.2.2.2.2.2.1 e4.2.2.2.2.2.2.2.2.1 e4.2.2.2.2.2.2.2.2.2.1 e4.2.2.2.2.2.2.2.2.2.2.1 e4.2.2.2.2.2.2.2.2.2.2.2.1)), .res (Box g2 131 (zH o5.2.2.2.1 e4.2.2.2.2.2.2.2.2.2.2.2.2.1 e4.2.2.2.2.2.2.2.2.2.2.2.2.2.1 e4.2.2.2.2.2.2.2.2.2.2.2.2.2.2.1 e4.2.2.2.2.2.2.2.2.2.2.2.2.2.2.2.1)),11, .res (Box g4 135 (zN o5.2.2.2.2 g2 e4.2.2.2.2.2.2.2.2.2.2.2.2.2.2.2.2))]) rfl rfl ?_ ?_
   ·refine .region<|.n 3 rfl<|.gs 69 hj4 rfl (fun hj4=>?_) (fun hj4=>?_)
    ·refine .n 1 rfl<|.gOn rfl rfl<|.bd hj4 fun r10 hr10 hj4=>.call (uQ (gb1:=g3) (gb2:=g4) (gb3:=g2) hr10) zJW rfl rfl rfl (zd [10,9,8,7] [5,4,10,5,7,6,5] 0 rfl) ?_;rintro _ _ ⟨A67,c67,A68,c68,A69,c69,A70,c70,A71,c71,M6,A72,c72,A73,c73,rfl,rfl⟩;refine .nm 19 rfl<|.n 3 rfl<|.gs 74 hj4 rfl (fun hj4=>?_) (fun hj4=>?_)
     ·refine .n 12 rfl<|.done<|.asrt (fun _ w=>(w.sl [15] 0 rfl).meltC) ?_;cases hj4;exact .thenN<|.hE (A38,c38,A67,c67,A68,c68,A69,c69,A70,c70,A71,c71,A72,c72,A73,c73,M6) rfl (zl [8,10,9,4,3,2,1,2,0,0,1,5,0] 4 rfl)
     refine .n 1 rfl<|.gOn rfl rfl<|.bd hj4 fun r11 hr11 hj4=>.cq 19 [2,3,4,5] [4,4] 0 (vV (gb1:=g3) hr11) zHW rfl<|.n 3 rfl<|.gs 79 hj4 rfl (fun hj4=>?_) (fun hj4=>?_)
     ·refine .n 7 rfl<|.done<|.asrt (fun _ w=>(w.sl [15] 0 rfl).meltC) ?_;cases hj4;exact .thenN<|.hE (A38,c38,A67,c67,A68,c68,A69,c69,A70,c70,A71,c71,A72,c72,A73,c73,M6) rfl (zl [8,10,9,6,5,4,3,2,0,0,1,5,0] 4 rfl)
     refine .n 1 rfl<|.gOn rfl rfl<|.bd hj4 fun r12 hr12 hj4=>.cr 20 [2,3,4,5] [] 0 (tX (gb1:=g3) hr12) zOi rfl fun A74 c74=>.n 1 rfl<|.gOn rfl rfl<|.asrt (fun _ w=>(w.sl [2] 0 rfl).meltC)<|.asrt (fun _ w=>(w.sl [16] 0 rfl).meltC)<|.bd hj4 fun r13 hr13 hj4=>.cv [1,0] (bE hr13) zUr rfl ?_;cases hj4;exact .be rfl<|.hE (A38,c38,A67,c67,A68,c68,A69,c69,A70,c70,A71,c71,A72,c72,A73,c73,M6) rfl (zl [9,11,10,7,6,5,4,3,0,1,2,6,1] 5 rfl)
    refine .n 17 rfl<|.done<|.asrt (fun _ w=>(w.sl [6] 0 rfl).meltC) ?_;cases hj4;exact .thenN<|.hE (A38,c38,A47,c47,A48,c48,A49,c49,A50,c50,A51,c51,A14,c14,A15,c15,M2) rfl (zl [7,7,7,1,1,1,1,1] 0 rfl)
   rintro ⟨A59,c59,A60,c60,A61,c61,A62,c62,A63,c63,A64,c64,A65,c65,A66,c66,M5⟩;refine .cb hj2 rfl (fun hj2=>?_) (fun hj2=>?_)
   ·refine .abf [6] [] 14 rfl rfl ?_;cases hj2;have h:some _=some _:=h;cases h;exact .rv rfl rfl ⟨rfl,rfl⟩ (zl [] 1 rfl)
   cases hj2;exact .sk<|.hereI (o5.1,o5.2.2.1,o5.2.2.2.1,o5.2.2.2.2) (A59,c59,A60,c60,A61,c61,A62,c62,A63,c63,A64,c64,A65,c65,A66,c66,M5) rfl (zb rfl) zw
  refine .skip<|.asrt (fun _ w=>(w.sl [6] 0 rfl).meltC) ?_;cases hj2;exact .thenN<|.hereI (r7,o4.2,o1.2.1,o1.2.2.2) (A38,c38,A47,c47,A48,c48,A49,c49,A50,c50,A51,c51,A14,c14,A15,c15,M2) rfl (zb rfl) (zl [7,7,7,1,1,1,1,1] 0 rfl)
 rintro o3 ⟨A39,c39,A40,c40,A41,c41,A42,c42,A43,c43,A44,c44,A45,c45,A46,c46,M4⟩ ho;subst ho;have h:=unR h;refine .seq<|.seq<|.bd h fun o6 hj5 h=>.cutK 12 (fun (e5:Option Addr × Nat × Option Addr × Nat × Option Addr × Nat × Option Addr × Nat × Option Addr × Nat)=>[1,2,9,12, .s 95 (.bool o6.1)]) (fun e5=>[.ro (SlL zZ e5.2.2.2.2.2.2.2.2.1 e5.2.2.2.2.2.2.2.2.2 o6.2.order), .ro (SlL eu8 e5.2.2.2.2.2.2.1 e5.2.2.2.2.2.2.2.1 o6.2.load.Data), .ro (SlL yP e5.2.2.2.2.1 e5.2.2.2.2.2.1 o6.2.load.Have), .ro (SlL zP e5.2.2.1 e5.2.2.2.1 o6.2.needs), .res (xB (yH zE) 64 e5.1 e5.2.1 o6.2.devices),0,1,2,8, .res (Box g3 144 (zG o6.2 g4 e5.1 e5.2.1 e5.2.2.1 e5.2.2.2.1 e5.2.2.2.2.1 e5.2.2.2.2.2.1 e5.2.2.2.2.2.2.1 e5.2.2.2.2.2.2.2.1 e5.2.2.2.2.2.2.2.2.1 e5.2.2.2.2.2.2.2.2.2)),10]) rfl rfl ?_ ?_
 ·refine .region<|.p rfl rfl<|.bd hj5 fun r14 hr14 hj5=>.cq 15 [8,7,6,5] [9,7] 0 (vV (gb1:=g3) hr14) zHW rfl<|.n 2 rfl<|.gs 90 hj5 rfl (fun hj5=>?_) (fun hj5=>?_)
  ·cases hj5;exact .be rfl<|.hE (A40,c40,A41,c41,A42,c42,A43,c43,A44,c44) rfl (zl [5,5,5,5,1,1,1,1,1,0,0] 1 rfl)
  refine .n 2 rfl<|.gOn rfl rfl<|.asrt (fun _ w=>(w.sl [11] 0 rfl).meltL)<|.bd hj5 fun r15 hr15 hj5=>.call (zCk (gb1:=g3) hr15) zUF rfl rfl rfl (zd [9,8,7,6,2,14] [1,1] 0 rfl) ?_;rintro _ _ ⟨A80,c80,A81,c81,A82,c82,A83,c83,A84,c84,rfl,rfl⟩;refine .nm 19 rfl ?_;cases hj5;exact .be rfl<|.hE (A80,c80,A81,c81,A82,c82,A83,c83,A84,c84) rfl (zl [3,2,1,0,1,2,2,2,6,0] 5 rfl)
 rintro ⟨A75,c75,A76,c76,A77,c77,A78,c78,A79,c79⟩;refine .cb h rfl (fun h=>?_) (fun h=>?_)
 ·refine .abf [6] [] 13 rfl rfl ?_;cases h;exact .rv rfl rfl ⟨rfl,rfl⟩ (zl [] 1 rfl)
 refine .sk<|.pr [1,2,9,12] rfl<|.seq<|.a 1 rfl<|.bd h fun r16 hr16 h=>.call (uQ (gb1:=g3) (gb2:=g4) (gb3:=g2) hr16) zJW rfl rfl rfl (zd [10,9,8,7] [9,4,9,4,7,5,4] 0 rfl) ?_;rintro _ _ ⟨A85,c85,A86,c86,A87,c87,A88,c88,A89,c89,M7,A90,c90,A91,c91,rfl,rfl⟩;refine .nm 18 rfl<|.bf [1,2,9,12,15] [0,0,0,0,0,0,0,0,0,0,0] 4 rfl rfl<|.ab [1,2,9,12,99] rfl<|.cb h rfl (fun h=>?_) (fun h=>?_)
 ·refine .seq<|.bd h fun o7 hj6 h=>.cutK 13 (fun (e6:Option Addr × Nat × Option Addr × Nat × Option Addr × Nat × Option Addr × Nat × Option Addr × Nat)=>[.s 6 (.bool o7.1)]) (fun e6=>[]) rfl rfl ?_ ?_
  ·refine .region<|.p rfl rfl<|.bd hj6 fun r17 hr17 hj6=>.cq 14 [2,3,4,5] [4,4] 0 (vV (gb1:=g3) hr17) zHW rfl<|.n 2 rfl<|.gs 103 hj6 rfl (fun hj6=>?_) (fun hj6=>?_)
   ·refine .n 1 rfl<|.gOn rfl rfl<|.bd hj6 fun r18 hr18 hj6=>.cr 15 [2,3,4,5] [] 0 (tX (gb1:=g3) hr18) zOi rfl fun A97 c97=>.n 1 rfl<|.gOn rfl rfl<|.asrt (fun _ w=>(w.sl [2] 0 rfl).meltC)<|.bd hj6 fun r19 hr19 hj6=>.cv [0,12] (bE hr19) zUr rfl<|.n 2 rfl<|.gs 109 hj6 rfl (fun hj6=>?_) (fun hj6=>?_)
    ·refine .n 1 rfl<|.gOn rfl rfl<|.bd hj6 fun r20 hr20 hj6=>.call (oV (gb1:=g3) hr20) zRV rfl rfl rfl (zd [3,4,5,6] [1,1] 0 rfl) ?_;rintro _ _ ⟨A98,c98,A99,c99,A100,c100,A101,c101,A102,c102,rfl,rfl⟩;refine .nm 19 rfl<|.n 3 rfl<|.gs 114 hj6 rfl (fun hj6=>?_) (fun hj6=>?_)
     ·refine .n 1 rfl<|.gOn rfl rfl<|.bd hj6 fun r21 hr21 hj6=>.cq 19 [2,3,4,5] [4,4] 0 (vV (gb1:=g3) hr21) zHW rfl ?_;cases hj6;exact .be rfl<|.hE (A98,c98,A99,c99,A100,c100,A101,c101,A102,c102) rfl (zl [] 18 rfl)
     cases hj6;exact .be rfl<|.hE (A98,c98,A99,c99,A100,c100,A101,c101,A102,c102) rfl (zl [] 18 rfl)
    cases hj6;exact .be rfl<|.hE (A85,c85,A86,c86,A87,c87,A88,c88,A89,c89) rfl (zl [] 14 rfl)
   cases hj6;exact .be rfl<|.hE (A85,c85,A86,c86,A87,c87,A88,c88,A89,c89) rfl (zl [] 13 rfl)
  rintro ⟨A92,c92,A93,c93,A94,c94,A95,c95,A96,c96⟩;cases h;exact .rv rfl rfl ⟨rfl,rfl⟩ (zl [] 1 rfl)
 refine .sk<|.pf [1,2,9] [0,0,0,0,0,0,0,0,0,0,0] 1 rfl rfl<|.seq<|.a 1 rfl<|.bd h fun r22 hr22 h=>.cq 13 [2,3,4,5] [4,4] 0 (vV (gb1:=g3) hr22) zHW rfl<|.b [1,2,9,121] rfl<|.cb h rfl (fun h=>?_) (fun h=>?_)
 ·refine .abf [6] [] 12 rfl rfl ?_;cases h;exact .rv rfl rfl ⟨rfl,rfl⟩ (zl [] 1 rfl)
 refine .sk<|.pr [1,2,9] rfl<|.a 1 rfl<|.bd h fun r23 hr23 h=>.ct 15 [] [] 0 (zAc hr23) zUk rfl fun A103 c103 A104 c104=>.n 3 rfl<|.alloc rfl rfl fun g6=>.sb 0 0 rfl<|.bf [1,2,9,17] [] 3 rfl rfl<|.seq<|.a 1 rfl<|.bd h fun r24 hr24 h=>.cr 14 [2,3,4,5] [] 0 (tX (gb1:=g3) hr24) zOi rfl fun A105 c105=>.b [1,2,9,17,128,129,130] rfl<|.bd h fun o8 hl1 h=>.cutJ 3 (fun (o9:Unit) (e8:Unit)=>[1,2,9,17]) (fun o9 e8=>[0,1]) rfl rfl (fun o9=>o8= .inr o9) ?_ ?_
 ·refine .block<|.loopQ hl1 0 (fun (s1:Int) (e7:Unit)=>[1,2,9,17,128,129, .s 130 (.int .i64 s1)]) (fun s1 e7=>[]) rfl rfl () (zb rfl) (fun _ w=>w) ?_;rintro s1 e7 st1 hm1 hd1 h1;refine .ae rfl<|.seq<|.cb h1 rfl (fun h1=>?_) (fun h1=>?_)
  ·refine .sk<|.pr [1,2,9,17,128,129,130] rfl<|.seq<|.block<|.seq<|.region<|.bd h1 fun x1 hx1 h1=>.ixC hx1 rfl rfl rfl (zm 2 rfl) rfl rfl rfl rfl rfl fun g7 hA=>?_;subst hA;refine .ldC (ls:=zE) 0 (fun ex=>.agg (zO x1 ex.1.1 ex.1.2 ex.2.1.1 ex.2.1.2).toArray) hx1 rfl rfl (zm 2 rfl) rfl (fun _=>rfl) fun ex1=>?_;obtain ⟨⟨A106,c106⟩,⟨⟨A107,c107⟩,_⟩⟩:=ex1;refine .nm 16 rfl<|.alloc rfl rfl fun g8=>.sb 0 0 rfl<|.b [1,2,9,17,19,128,129,130] rfl<|.seq<|.region<|.lb 0 0 rfl<|.bd h1 fun r25 hr25 h1=>.cv [1,2] (pF hr25) zEL rfl<|.bf [1,2,9,17,128,129,130,136] [] 3 rfl rfl<|.cb h1 rfl (fun h1=>?_) (fun h1=>?_)
   ·refine .abf [6] [] 13 rfl rfl ?_;cases h1;cases hd1 _ rfl
    have h:some _=some _:=h;cases h;exact .rv rfl rfl ⟨rfl,rfl⟩ (zl [] 1 rfl)
   refine .skip<|.blkN<|.thenN<|.pr [1,2,9,17,128,129,130] rfl<|.region ?_;cases h1;exact .be rfl<|.ag () hm1 rfl zw
  refine .xq rfl ?_;cases h1;cases hd1 _ rfl
  exact .thenN<|.hereI () () rfl (zb rfl) (zl [0,0] 1 rfl)
 rintro o9 e8 ho;subst ho;have h:=unR h;refine .seq<|.bd h fun o10 hj7 h=>.cutK 12 (fun (e9:Option Addr × Nat × Option Addr × Nat × Option Addr × Nat × Option Addr × Nat × Option Addr × Nat × Option Nat × Option Addr × Nat × Option Addr × Nat)=>[.s 6 (.bool o10.1)]) (fun e9=>[]) rfl rfl ?_ ?_
 ·refine .region<|.n 2 rfl<|.bd hj7 fun r26 hr26 hj7=>.call (oS (gb1:=g3) hr26) zSE rfl rfl rfl (zd [2,3,4,5,12] [] 0 rfl) ?_;rintro _ _ ⟨A115,c115,A116,c116,A117,c117,A118,c118,A119,c119,rfl,rfl⟩;refine .nm 17 rfl<|.n 2 rfl<|.gs 142 hj7 rfl (fun hj7=>?_) (fun hj7=>?_)
  ·refine .n 2 rfl<|.gOn rfl rfl<|.bd hj7 fun r27 hr27 hj7=>.call (tU (gb1:=g3) hr27) zKq rfl rfl rfl (zd [2,3,4,5,15] [4,4] 0 rfl) ?_;rintro _ _ ⟨A120,c120,A121,c121,A122,c122,A123,c123,A124,c124,rfl,rfl⟩;refine .nm 21 rfl<|.n 3 rfl<|.gs 148 hj7 rfl (fun hj7=>?_) (fun hj7=>?_)
   ·refine .n 1 rfl<|.gOn rfl rfl<|.bd hj7 fun r28 hr28 hj7=>.call (oV (gb1:=g3) hr28) zRV rfl rfl rfl (zd [2,3,4,5] [4,4] 0 rfl) ?_;rintro _ _ ⟨A125,c125,A126,c126,A127,c127,A128,c128,A129,c129,rfl,rfl⟩;refine .nm 25 rfl<|.n 3 rfl<|.gs 153 hj7 rfl (fun hj7=>?_) (fun hj7=>?_)
    ·refine .n 1 rfl<|.gOn rfl rfl<|.bd hj7 fun r29 hr29 hj7=>.call (uQ (gb1:=g3) (gb2:=g4) (gb3:=g2) hr29) zJW rfl rfl rfl (zd [7,8,9,10] [4,4,16,16,16,16,16] 0 rfl) ?_;rintro _ _ ⟨A130,c130,A131,c131,A132,c132,A133,c133,A134,c134,M9,A135,c135,A136,c136,rfl,rfl⟩;refine .nm 29 rfl<|.n 3 rfl<|.gs 158 hj7 rfl (fun hj7=>?_) (fun hj7=>?_)
     ·refine .n 3 rfl<|.gs 161 hj7 rfl (fun hj7=>?_) (fun hj7=>?_)
      ·cases hj7;exact .be rfl<|.hE (A130,c130,A131,c131,A132,c132,A133,c133,A134,c134,M9,A135,c135,A136,c136) rfl (zl [] 28 rfl)
      cases hj7;exact .be rfl<|.hE (A130,c130,A131,c131,A132,c132,A133,c133,A134,c134,M9,A135,c135,A136,c136) rfl (zl [] 28 rfl)
     cases hj7;exact .be rfl<|.hE (A130,c130,A131,c131,A132,c132,A133,c133,A134,c134,M9,A135,c135,A136,c136) rfl (zl [] 28 rfl)
    cases hj7;exact .be rfl<|.hE (A125,c125,A126,c126,A127,c127,A128,c128,A129,c129,M7,A90,c90,A91,c91) rfl (zl [] 24 rfl)
   cases hj7;exact .be rfl<|.hE (A120,c120,A121,c121,A122,c122,A123,c123,A124,c124,M7,A90,c90,A91,c91) rfl (zl [] 20 rfl)
  cases hj7;exact .be rfl<|.hE (A115,c115,A116,c116,A117,c117,A118,c118,A119,c119,M7,A90,c90,A91,c91) rfl (zl [] 16 rfl)
 rintro ⟨A108,c108,A109,c109,A110,c110,A111,c111,A112,c112,M8,A113,c113,A114,c114⟩;cases h;exact .rv rfl rfl ⟨rfl,rfl⟩ (zl [] 1 rfl)
end Go.Proofs.YtplchdlgdjcojaaGreatDoor
end
section
namespace Go.Proofs.YtplchdlgdjcojaaGreatDoor
open Go
set_option linter.unusedSimpArgs false
set_option linter.unusedVariables false
def rng (l:List Int):Prop:=∀ x∈l,0≤x∧x≤255
theorem rng.nil:rng []:=fun x h=>by cases h
theorem rng.app {l m:List Int} (h:rng l) (k:rng m):rng (l++m):=fun x hx=>by
 rcases List.mem_append.1 hx with hx | hx
 ·exact h x hx
 ·exact k x hx
theorem rng.cons {x:Int} {l:List Int} (h:0≤x∧x≤255) (k:rng l):rng (x::l):=fun y hy=>by
 rcases List.mem_cons.1 hy with rfl | hy
 ·exact h
 ·exact k y hy
theorem rng.sub {l m:List Int} (h:rng l) (k:∀ x∈m,x∈l):rng m:=fun x hx=>h x (k x hx)
theorem rng.take {l:List Int} (h:rng l) (n:Nat):rng (l.take n):=h.sub fun _ hx=>List.mem_of_mem_take hx
theorem rng.drop {l:List Int} (h:rng l) (n:Nat):rng (l.drop n):=h.sub fun _ hx=>List.mem_of_mem_drop hx
theorem rng.set {l:List Int} (h:rng l) (n:Nat) {v:Int} (hv:0≤v∧v≤255):rng (l.set n v):=fun x hx=>by
 rcases List.mem_or_eq_of_mem_set hx with hx | hx
 ·exact h x hx
 ·subst hx; exact hv
theorem rng.get {l:List Int} (h:rng l) (i:Nat):0≤l.getD i 0∧l.getD i 0≤255:=by
 rw [List.getD_eq_getElem?_getD]
 cases hi:l[i]? with
 | none=>exact ⟨Int.le_refl 0,by decide⟩
 | some x=>exact h x (List.mem_of_getElem? hi)
theorem rng.rep {n:Nat} {v:Int} (hv:0≤v∧v≤255):rng (List.replicate n v):=fun x hx=>by
 obtain ⟨_,rfl⟩:=List.mem_replicate.1 hx
 exact hv
theorem sP {x:Int} (h:0≤x∧x≤255):∃ n:Nat,n<256∧x=(n:Int):=⟨x.toNat,by omega,by omega⟩
theorem zQm {x y:Int} (hx:0≤x∧x≤255) (hy:0≤y∧y≤255):0≤rO .u8 x y∧rO .u8 x y≤255:=by
 obtain ⟨a,ha,rfl⟩:=sP hx
 obtain ⟨b,hb,rfl⟩:=sP hy
 rw [zJi ha hb]
 have:=Nat.and_lt_two_pow (n:=8) a (y:=b) hb
 omega
theorem zSo {x y:Int} (hx:0≤x∧x≤255) (hy:0≤y∧y≤255):0≤iOr .u8 x y∧iOr .u8 x y≤255:=by
 obtain ⟨a,ha,rfl⟩:=sP hx
 obtain ⟨b,hb,rfl⟩:=sP hy
 rw [zCQ ha hb]
 have:=Nat.or_lt_two_pow (n:=8) ha hb
 omega
theorem zQF {x:Int} (hx:0≤x∧x≤255):rO .u8 255 x=x:=by
 obtain ⟨a,ha,rfl⟩:=sP hx
 have:(255:Int)=((255:Nat):Int):=rfl
 rw [this,zJi (by decide) ha,Nat.and_comm]
 have e:a&&&255=a % 2 ^ 8:=Nat.and_two_pow_sub_one_eq_mod a 8
 rw [e]
 omega
theorem zWX {x:Int} (hx:0≤x∧x≤255):iOr .u8 x 255=255:=by
 obtain ⟨a,ha,rfl⟩:=sP hx
 have:(255:Int)=((255:Nat):Int):=rfl
 rw [this,zCQ ha (by decide)]
 have h:∀ a:Fin 256,a.val|||255=255:=by decide+kernel
 rw [h ⟨a,ha⟩]
theorem or_zero {x y:Int} (hx:0≤x∧x≤255) (hy:0≤y∧y≤255):iOr .u8 x y=0↔x=0∧y=0:=by
 obtain ⟨a,ha,rfl⟩:=sP hx
 obtain ⟨b,hb,rfl⟩:=sP hy
 rw [zCQ ha hb]
 have:=@Nat.or_eq_zero_iff a b
 omega
theorem zWm {x:Int} (hx:0≤x∧x≤255):iOr .u8 x 0=x:=by
 obtain ⟨a,ha,rfl⟩:=sP hx
 have:(0:Int)=((0:Nat):Int):=rfl
 rw [this,zCQ ha (by decide),Nat.or_zero]
structure OkD (d:zA):Prop where
 size:64≤d.size∧d.size≤1024
 wear:1≤d.wear.length∧d.wear.length≤16
 len:(d.bytes.length:Int)=d.wear.length*d.size
 rng:rng d.bytes
 torn:0≤d.torn∧d.torn≤255
 left:0≤d.left∧d.left≤9223372036854775807
theorem OkD.bound {d:zA} (h:OkD d):d.bytes.length≤16384:=by
 have h1:=h.len
 have h2:=h.size
 have h3:=h.wear
 have:(d.wear.length:Int)*d.size≤16*1024:=Int.mul_le_mul (by omega) (by omega) (by omega) (by omega)
 omega
def xL (d:zA):zA × Bool:=
 if 0<d.left then (⟨d.size,d.bytes,d.wear,IntKind.wrap .i64 (d.steps+1),d.left - 1,d.torn,d.left - 1==0⟩,d.left - 1==0)
 else (⟨d.size,d.bytes,d.wear,IntKind.wrap .i64 (d.steps+1),d.left,d.torn,d.down⟩,d.down)
theorem zNo {d:zA} (h:OkD d):wX d=some (xL d):=by
 unfold wX xL
 by_cases hl:0<d.left
 ·rw [xD (by simpa using hl),if_pos hl,yQ (x:=d.left - 1) (by have:=h.left; omega) (by have:=h.left; omega)]
 ·rw [yR (by simpa using hl),if_neg hl]
theorem vB (d:zA):(xL d).1.bytes=d.bytes:=by unfold xL; split <;> rfl
theorem kW (d:zA):(xL d).1.size=d.size:=by unfold xL; split <;> rfl
theorem gW (d:zA):(xL d).1.wear=d.wear:=by unfold xL; split <;> rfl
theorem oO (d:zA):(xL d).1.torn=d.torn:=by unfold xL; split <;> rfl
theorem zBr {d:zA} (h:d.down=false):(xL d).1.down=(xL d).2:=by unfold xL; split <;> rfl
theorem dE {d:zA} (h:OkD d):OkD (xL d).1:=by
 refine ⟨by rw [kW]; exact h.size,by rw [gW]; exact h.wear,by rw [vB,gW,kW]; exact h.len,by rw [vB]; exact h.rng,by rw [oO]; exact h.torn,?_⟩
 have:=h.left
 unfold xL
 split <;> simp only <;> omega
def wrB (d:zA) (i:Nat) (v:Int):zA:=⟨d.size,d.bytes.set i v,d.wear,d.steps,d.left,d.torn,d.down⟩
theorem zJl {d:zA} (h:OkD d) (i:Nat) {v:Int} (hv:0≤v∧v≤255):OkD (wrB d i v):=
 ⟨h.size,h.wear,by show ((d.bytes.set i v).length:Int)=_; rw [List.length_set]; exact h.len,h.rng.set i hv,h.torn,h.left⟩
def pM:zA→Nat→List Int→zA × Int
 | d,_, []=>(d,0)
 | d,i,x::b=>
  if (xL d).2 then (wrB (xL d).1 i (rO .u8 (d.bytes.getD i 0) (iOr .u8 x d.torn)),10)
  else pM (wrB (xL d).1 i (rO .u8 (d.bytes.getD i 0) x)) (i+1) b
theorem zJJ:∀ (b:List Int) (d:zA) (i:Nat),OkD d→rng b→OkD (pM d i b).1∧(pM d i b).1.size=d.size∧(pM d i b).1.wear=d.wear∧(pM d i b).1.bytes.length=d.bytes.length∧(pM d i b).1.torn=d.torn
 | [],d,i,h,_=>⟨h,rfl,rfl,rfl,rfl⟩
 | x::b,d,i,h,hb=>by
  have hx:=hb x (by simp)
  unfold pM
  split
  ·exact ⟨zJl (dE h) i (zQm (h.rng.get i) (zSo hx h.torn)),kW d,gW d,by simp [wrB,vB],oO d⟩
  ·obtain ⟨h1,h2,h3,h4,h5⟩:=zJJ b (wrB (xL d).1 i (rO .u8 (d.bytes.getD i 0) x)) (i+1) (zJl (dE h) i (zQm (h.rng.get i) hx)) (fun y hy=>hb y (by simp [hy]))
   exact ⟨h1,h2.trans (kW d),h3.trans (gW d),by rw [h4]; simp [wrB,vB],h5.trans (oO d)⟩
theorem zAb {l:List Int} {i:Nat} (h:i<l.length):elt l (i:Int)=some (l.getD i 0):=by
 rw [elt_nat,List.getD_eq_getElem?_getD,List.getElem?_eq_getElem h]
 rfl
theorem lO {α:Type} {l:List α} {i:Nat} (h:i<l.length) (v:α):rZ l (i:Int) v=some (l.set i v):=by
 unfold rZ
 rw [if_pos ⟨by omega,by omega⟩]
 simp
theorem zHY {d:zA} (h:OkD d) (at_ n:Int) (ha1: -4611686018427387904≤at_):uN d at_ n=some (decide (0≤at_∧at_≤d.bytes.length∧0≤n∧n≤d.bytes.length - at_)):=by
 have hb:=h.bound
 unfold uN
 by_cases h1:at_≥0
 ·rw [xD (by simpa using h1)]
  by_cases h2:at_≤(d.bytes.length:Int)
  ·rw [xD (by simpa using h2)]
   by_cases h3:n≥0
   ·rw [xD (by simpa using h3),bnd_some,yQ (by omega) (by omega)]
    congr 1
    rw [decide_eq_decide]
    omega
   ·rw [yR (by simpa using h3),bnd_some]
    congr 1
    symm
    rw [decide_eq_false_iff_not]
    omega
  ·rw [yR (by simpa using h2),bnd_some]
   congr 1
   symm
   rw [decide_eq_false_iff_not]
   omega
 ·rw [yR (by simpa using h1),bnd_some]
  congr 1
  symm
  rw [decide_eq_false_iff_not]
  omega
noncomputable def zAa (at_p1:Int) (b_p2:List Int):zA × Int→Option (rN (zA × Int) ((zA × Int) ⊕ zA)):=
 (fun (s1:zA × Int)=>bif decide (s1.2<(b_p2.length:Int)) then (bnd (elt b_p2 s1.2) fun x1=>bnd (wX s1.1) fun r2=>bif r2.2 then (bnd (elt r2.1.bytes (IntKind.wrap .i64 (at_p1+s1.2))) fun x2=>bnd (elt r2.1.bytes (IntKind.wrap .i64 (at_p1+s1.2))) fun x3=>bnd (elt r2.1.bytes (IntKind.wrap .i64 (at_p1+s1.2))) fun x4=>bnd (rZ r2.1.bytes (IntKind.wrap .i64 (at_p1+s1.2)) (rO .u8 x3 (iOr .u8 x1 r2.1.torn))) fun l1=>some (.done (.inl ((⟨r2.1.size,l1,r2.1.wear,r2.1.steps,r2.1.left,r2.1.torn,r2.1.down⟩:zA),10)))) else (bnd (elt r2.1.bytes (IntKind.wrap .i64 (at_p1+s1.2))) fun x5=>bnd (rZ r2.1.bytes (IntKind.wrap .i64 (at_p1+s1.2)) (rO .u8 x5 x1)) fun l2=>some (.next ((⟨r2.1.size,l2,r2.1.wear,r2.1.steps,r2.1.left,r2.1.torn,r2.1.down⟩:zA),IntKind.wrap .i64 (s1.2+1))))) else (some (.done (.inr s1.1))))
def zEt (r:zA × Int):(zA × Int) ⊕ zA:=if r.2=0 then .inr r.1 else .inl r
theorem zIa (at_:Nat) (b:List Int) (hr:rng b):∀ (rest:List Int) (j:Nat) (d:zA),OkD d→b.drop j=rest→j+rest.length=b.length→at_+b.length≤d.bytes.length→
  yE (zAa (at_:Int) b) (d,(j:Int))=some (zEt (pM d (at_+j) rest))
 | [],j,d,hd,h1,h2,h3=>by
  refine xT ?_
  unfold zAa
  simp only [List.length_nil] at h2
  rw [yR (by simp; omega)]
  rfl
 | x::rest,j,d,hd,h1,h2,h3=>by
  have hb:=hd.bound
  simp only [List.length_cons] at h2
  have hj:j<b.length:=by omega
  have hx:b[j]=x:=by
   have:=List.getElem_cons_drop (h:=hj)
   rw [h1] at this
   exact (List.cons.inj this).1
  have hrest:b.drop (j+1)=rest:=by
   have:=List.getElem_cons_drop (h:=hj)
   rw [h1] at this
   exact (List.cons.inj this).2
  have hxr:=hr x (by rw [←hx]; exact List.getElem_mem hj)
  have hi:at_+j<(xL d).1.bytes.length:=by rw [vB]; omega
  have hw:IntKind.wrap .i64 ((at_:Int)+(j:Int))=((at_+j:Nat):Int):=by rw [yQ (by omega) (by omega)]; omega
  have hstep:zAa (at_:Int) b (d,(j:Int))=some (if (xL d).2 then .done (.inl (wrB (xL d).1 (at_+j) (rO .u8 (d.bytes.getD (at_+j) 0) (iOr .u8 x d.torn)),10)) else .next (wrB (xL d).1 (at_+j) (rO .u8 (d.bytes.getD (at_+j) 0) x),((j+1:Nat):Int))):=by
   unfold zAa
   simp only
   rw [xD (by simp; omega),yU hj,bnd_some,hx,zNo hd,bnd_some]
   cases hf:(xL d).2
   ·rw [cond_false,hw,zAb hi,bnd_some,lO hi,bnd_some,zR hj (by omega),vB,if_neg (by decide)]
    simp only [wrB,vB]
   ·rw [cond_true,hw,zAb hi,bnd_some,bnd_some,bnd_some,lO hi,bnd_some,vB,oO,if_pos rfl]
    simp only [wrB,vB,oO]
  cases hf:(xL d).2
  ·rw [hf] at hstep
   refine tJ hstep ?_
   have:=zIa at_ b hr rest (j+1) (wrB (xL d).1 (at_+j) (rO .u8 (d.bytes.getD (at_+j) 0) x)) (zJl (dE hd) _ (zQm (hd.rng.get _) hxr)) hrest (by omega) (by simp [wrB,vB]; omega)
   rw [this]
   conv=>rhs; unfold pM
   rw [if_neg (by rw [hf]; decide)]
   rfl
  ·rw [hf] at hstep
   rw [xT hstep]
   conv=>rhs; unfold pM
   rw [if_pos hf]
   simp only [zEt]
   rw [if_neg (by decide)]
theorem zDi:∀ (b:List Int) (d:zA) (i:Nat),(pM d i b).2=0∨(pM d i b).2=10
 | [],d,i=>.inl rfl
 | x::b,d,i=>by
  unfold pM
  split
  ·exact .inr rfl
  ·exact zDi b _ _
theorem zJT (r:zA × Int) (h:r.2=0∨r.2=10):(wR (zEt r) fun o2=>some (o2,0))=some r:=by
 unfold zEt
 rcases h with h | h
 ·rw [if_pos h,retOr_inr,←h]
 ·rw [if_neg (by rw [h]; decide),retOr_inl]
def zY (d:zA) (at_:Int) (b:List Int):zA × Int:=
 if d.down then (d,10) else if 0≤at_∧at_≤d.bytes.length∧0≤(b.length:Int)∧(b.length:Int)≤d.bytes.length - at_ then pM d at_.toNat b else (d,2)
theorem cL {d:zA} (h:OkD d) {b:List Int} (hb:rng b) (at_:Int) (ha1: -4611686018427387904≤at_):wK d at_ b=some (zY d at_ b):=by
 unfold wK zY
 cases hd:d.down
 ·rw [cond_false,zHY h at_ _ ha1,bnd_some]
  by_cases hw:0≤at_∧at_≤d.bytes.length∧0≤(b.length:Int)∧(b.length:Int)≤d.bytes.length - at_
  ·rw [if_neg (by simp),if_pos hw,yR (by simp only [hw,decide_true]; rfl)]
   have:=zIa at_.toNat b hb b 0 d h rfl (by omega) (by omega)
   have e:((at_.toNat:Nat):Int)=at_:=by omega
   rw [e] at this
   unfold zAa at this
   exact yD this (zJT _ (zDi b d _))
  ·rw [if_neg (by simp),if_neg hw,xD (by rw [decide_eq_false hw]; rfl)]
 ·rw [cond_true,if_pos rfl]
theorem zKB {d:zA} (h:OkD d) {b:List Int} (hb:rng b) (at_:Int):OkD (zY d at_ b).1∧(zY d at_ b).1.size=d.size∧(zY d at_ b).1.wear=d.wear∧(zY d at_ b).1.bytes.length=d.bytes.length∧(zY d at_ b).1.torn=d.torn:=by
 unfold zY
 split
 ·exact ⟨h,rfl,rfl,rfl,rfl⟩
 ·split
  ·exact zJJ b d _ h hb
  ·exact ⟨h,rfl,rfl,rfl,rfl⟩
theorem lH {b:List Int} (h:b.length≤1000000):zQ b=some b:=by
 unfold zQ
 rw [tC (by simp; omega) (by simp; omega),bnd_some]
 rfl
def zOw (d:zA) (at_ n:Int):List Int × Int:=
 if d.down then ([],10) else if 0≤at_∧at_≤d.bytes.length∧0≤n∧n≤d.bytes.length - at_ then ((d.bytes.drop at_.toNat).take n.toNat,0) else ([],2)
theorem zOg {d:zA} (h:OkD d) (at_ n:Int) (ha1: -4611686018427387904≤at_):uG d at_ n=some (d,zOw d at_ n):=by
 have hb:=h.bound
 unfold uG zOw
 cases hd:d.down
 ·rw [cond_false,zHY h at_ _ ha1,bnd_some]
  by_cases hw:0≤at_∧at_≤d.bytes.length∧0≤n∧n≤d.bytes.length - at_
  ·rw [if_neg (by simp),if_pos hw,yR (by simp only [hw,decide_true]; rfl),yQ (by omega) (by omega)]
   obtain ⟨a,rfl⟩:∃ a:Nat,at_=(a:Int):=⟨at_.toNat,by omega⟩
   obtain ⟨k,rfl⟩:∃ k:Nat,n=(k:Int):=⟨n.toNat,by omega⟩
   have h1:mX d.bytes.length (a:Int) ((a:Int)+(k:Int))=some k:=by
    unfold mX
    rw [if_pos ⟨by omega,by omega,by omega⟩]
    congr 1
    omega
   have h2:Go.Proofs.YtplchdlgdjcojaaGreatDoor.sub d.bytes (((a:Int).toNat:Nat):Int) (((a:Int).toNat+k:Nat):Int)=some ((d.bytes.take (a+k)).drop a):=by
    unfold Go.Proofs.YtplchdlgdjcojaaGreatDoor.sub
    rw [if_pos ⟨by omega,by omega,by omega⟩]
    congr 2
   rw [h1,bnd_some,h2,bnd_some,lH (by simp; omega),bnd_some]
   congr 3
   rw [List.take_drop,show (a:Int).toNat+(k:Int).toNat=a+k by omega]
   rfl
  ·rw [if_neg (by simp),if_neg hw,xD (by rw [decide_eq_false hw]; rfl)]
 ·rw [cond_true,if_pos rfl]
def orP (l:List Int) (lo n:Nat) (v:Int):List Int:=l.take lo++((l.drop lo).take n).map (fun x=>iOr .u8 x v)++l.drop (lo+n)
theorem zOy (l:List Int) (lo n:Nat) (v:Int) (h:lo+n≤l.length):(orP l lo n v).length=l.length:=by
 simp only [orP,List.length_append,List.length_take,List.length_map,List.length_drop]
 omega
theorem zTe {l:List Int} (h:rng l) (lo n:Nat) {v:Int} (hv:0≤v∧v≤255):rng (orP l lo n v):=by
 refine ((h.take lo).app fun x hx=>?_).app (h.drop _)
 obtain ⟨y,hy,rfl⟩:=List.mem_map.1 hx
 exact zSo (((h.drop lo).take n) y hy) hv
theorem zRm (l:List Int) (lo:Nat) (v:Int):orP l lo 0 v=l:=by simp [orP]
theorem zQY {l:List Int} {lo n:Nat} (v:Int) (h:lo+n<l.length):(orP l lo n v).set (lo+n) (iOr .u8 (l.getD (lo+n) 0) v)=orP l lo (n+1) v:=by
 unfold orP
 have h1:(l.take lo++((l.drop lo).take n).map (fun x=>iOr .u8 x v)).length=lo+n:=by
  simp only [List.length_append,List.length_take,List.length_map,List.length_drop]; omega
 have h2:l.drop (lo+n)=l[lo+n]::l.drop (lo+(n+1)):=(List.getElem_cons_drop (h:=h)).symm
 have h3:(l.drop lo).take (n+1)=(l.drop lo).take n++ [l[lo+n]]:=by
  rw [xK (by simp; omega)]
  simp
 rw [List.set_append_right _ _ (by omega),h1,Nat.sub_self,h2,List.set_cons_zero,h3,List.map_append,List.getD_eq_getElem?_getD,List.getElem?_eq_getElem h]
 simp
theorem zSP {l:List Int} {lo n:Nat} (v:Int) (h:lo+n<l.length):(orP l lo n v).getD (lo+n) 0=l.getD (lo+n) 0:=by
 unfold orP
 have h1:(l.take lo++((l.drop lo).take n).map (fun x=>iOr .u8 x v)).length=lo+n:=by
  simp only [List.length_append,List.length_take,List.length_map,List.length_drop]; omega
 rw [List.getD_eq_getElem?_getD,List.getD_eq_getElem?_getD,List.getElem?_append_right (by omega),h1,Nat.sub_self,List.getElem?_drop]
 simp
def wrW (d:zA) (i:Nat):zA:=⟨d.size,d.bytes,d.wear.set i (IntKind.wrap .i64 (d.wear.getD i 0+1)),d.steps,d.left,d.torn,d.down⟩
def wrA (d:zA) (b:List Int):zA:=⟨d.size,b,d.wear,d.steps,d.left,d.torn,d.down⟩
def tN (d:zA) (s:Int):zA × Int:=
 if d.down then (d,10) else if s<0∨s≥d.wear.length then (d,2) else
  (wrA (xL (wrW d s.toNat)).1 (orP d.bytes (s.toNat*d.size.toNat) d.size.toNat (if (xL (wrW d s.toNat)).2 then d.torn else 255)),if (xL (wrW d s.toNat)).2 then 10 else 0)
theorem zLU {d:zA} (h:OkD d) (i:Nat):OkD (wrW d i):=
 ⟨h.size,by show 1≤(d.wear.set _ _).length∧(d.wear.set _ _).length≤16; rw [List.length_set]; exact h.wear,by show (d.bytes.length:Int)=((d.wear.set _ _).length:Int)*_; rw [List.length_set]; exact h.len,h.rng,h.torn,h.left⟩
theorem zUY {d:zA} (h:OkD d) {b:List Int} (hl:b.length=d.bytes.length) (hr:rng b):OkD (wrA d b):=
 ⟨h.size,h.wear,by show (b.length:Int)=_; rw [hl]; exact h.len,hr,h.torn,h.left⟩
theorem tG {d:zA} (h:OkD d) {k:Nat} (hk:k<d.wear.length):k*d.size.toNat+d.size.toNat≤d.bytes.length:=by
 have h1:=h.len
 have h2:=h.size
 obtain ⟨z,hz⟩:∃ z:Nat,d.size=(z:Int):=⟨d.size.toNat,by omega⟩
 rw [hz] at h1 ⊢
 have h3:d.bytes.length=d.wear.length*z:=by exact_mod_cast h1
 have h4:(k+1)*z≤d.wear.length*z:=Nat.mul_le_mul_right _ (by omega)
 rw [Nat.add_mul,Nat.one_mul] at h4
 show k*z+z≤_
 omega
theorem zRl {d:zA} (h:OkD d) (s:Int) (hs:s≤4611686018427387904):rC d s=some (tN d s):=by
 have hb:=h.bound
 unfold rC tN
 cases hd:d.down
 ·rw [cond_false,if_neg (by simp)]
  by_cases hs0:s<0
  ·rw [xD (by simpa using hs0),bnd_some,cond_true,if_pos (.inl hs0)]
  ·rw [yR (by simpa using hs0),bnd_some]
   by_cases hs1:s≥d.wear.length
   ·rw [xD (by simpa using hs1),if_pos (.inr hs1)]
   ·rw [yR (by simpa using hs1),if_neg (by omega)]
    obtain ⟨k,rfl⟩:∃ k:Nat,s=(k:Int):=⟨s.toNat,by omega⟩
    have hk:k<d.wear.length:=by omega
    have hk16:=h.wear
    have hok:=dE (zLU h k)
    have hst:wX (⟨d.size,d.bytes,d.wear.set k (IntKind.wrap .i64 (d.wear.getD k 0+1)),d.steps,d.left,d.torn,false⟩:zA)=some (xL (wrW d k)):=by rw [←zNo (zLU h k)]; simp only [wrW,hd]
    rw [zAb hk,bnd_some,lO hk,bnd_some,hst,bnd_some]
    have hz:=h.size
    obtain ⟨z,hzz⟩:∃ z:Nat,d.size=(z:Int):=⟨d.size.toNat,by omega⟩
    have hsz:(xL (wrW d k)).1.size=(z:Int):=(kW _).trans hzz
    have hby:(xL (wrW d k)).1.bytes=d.bytes:=vB _
    have hse:=tG h hk
    rw [hzz] at hse
    have hkz:k*z≤16384:=by
     have:((z:Int)).toNat=z:=rfl
     rw [this] at hse
     omega
    have hse':k*z+z≤d.bytes.length:=hse
    have e1:IntKind.wrap .i64 ((k:Int)*(z:Int))=((k*z:Nat):Int):=by
     have:(k:Int)*(z:Int)=((k*z:Nat):Int):=by simp
     rw [this,yS (by omega)]
    have e2:IntKind.wrap .i64 (IntKind.wrap .i64 ((k:Int)+1)*(z:Int))=((k*z+z:Nat):Int):=by
     rw [yQ (x:=(k:Int)+1) (by omega) (by omega)]
     have:((k:Int)+1)*(z:Int)=((k*z+z:Nat):Int):=by simp [Int.add_mul]
     rw [this,yS (by omega)]
    simp only [hsz,hby,e1,e2]
    have hpm:mX d.bytes.length ((k*z:Nat):Int) ((k*z+z:Nat):Int)=some z:=by
     unfold mX
     rw [if_pos ⟨by omega,by omega,by omega⟩]
     congr 1
     omega
    have ho:(bif (xL (wrW d k)).2 then some (xL (wrW d k)).1.torn else some 255)=some (if (xL (wrW d k)).2 then d.torn else 255):=by
     rw [oO]
     cases (xL (wrW d k)).2 <;> rfl
    rw [ho,bnd_some,hpm,bnd_some]
    generalize hv:(if (xL (wrW d k)).2=true then d.torn else 255)=v
    have hvr:0≤v∧v≤255:=by rw [←hv]; split; exact h.torn; decide
    have e3:(((k*z:Nat):Int)).toNat=k*z:=rfl
    rw [e3]
    refine xY (fun j=>(wrA (xL (wrW d k)).1 (orP d.bytes (k*z) j v),(j:Int))) z (wrA (xL (wrW d k)).1 (orP d.bytes (k*z) z v)) ?_ (fun j hj=>?_) ?_ ?_
    ·rw [zRm,←hby]; rfl
    ·have hlt:k*z+j<d.bytes.length:=by omega
     have hlt2:k*z+j<(orP d.bytes (k*z) j v).length:=by rw [zOy _ _ _ _ (by omega)]; exact hlt
     have hel:zIf (orP d.bytes (k*z) j v) (k*z) z (j:Int)=some (d.bytes.getD (k*z+j) 0):=by
      unfold zIf
      rw [if_pos ⟨by omega,by omega⟩]
      have:((k*z:Nat):Int)+(j:Int)=((k*z+j:Nat):Int):=by omega
      rw [this,zAb hlt2,zSP v hlt]
     have hse2:rZ (orP d.bytes (k*z) j v) (((k*z:Nat):Int)+(j:Int)) (iOr .u8 (d.bytes.getD (k*z+j) 0) v)=some (orP d.bytes (k*z) (j+1) v):=by
      have:((k*z:Nat):Int)+(j:Int)=((k*z+j:Nat):Int):=by omega
      rw [this,lO hlt2,zQY v hlt]
     simp only [wrA]
     rw [xD (by simp; omega),hel,bnd_some,bnd_some,hse2,bnd_some,zR hj (by omega)]
    ·simp only
     rw [yR (by simp)]
    ·have e4:((z:Int)).toNat=z:=rfl
     have e5:((k:Int)).toNat=k:=rfl
     rw [hzz]
     simp only [e4,e5]
     cases hf:(xL (wrW d k)).2
     ·rw [hf] at hv
      rw [cond_false,←hv]
      rfl
     ·rw [hf] at hv
      rw [cond_true,←hv]
      rfl
 ·rw [cond_true,if_pos rfl]
theorem zGV {d:zA} (h:OkD d) (s:Int):OkD (tN d s).1∧(tN d s).1.size=d.size∧(tN d s).1.wear.length=d.wear.length∧(tN d s).1.bytes.length=d.bytes.length∧(tN d s).1.torn=d.torn:=by
 unfold tN
 split
 ·exact ⟨h,rfl,rfl,rfl,rfl⟩
 ·split
  ·exact ⟨h,rfl,rfl,rfl,rfl⟩
  ·rename_i hs
   have hk:s.toNat<d.wear.length:=by omega
   have hse:=tG h hk
   have hl:=zOy d.bytes (s.toNat*d.size.toNat) d.size.toNat (if (xL (wrW d s.toNat)).2 then d.torn else 255) hse
   have hvr:0≤(if (xL (wrW d s.toNat)).2 then d.torn else 255)∧(if (xL (wrW d s.toNat)).2 then d.torn else 255)≤255:=by split; exact h.torn; decide
   refine ⟨zUY (dE (zLU h _)) ?_ (zTe h.rng _ _ hvr),kW _,?_,hl,oO _⟩
   ·rw [vB]; exact hl
   ·show (xL (wrW d s.toNat)).1.wear.length=_
    rw [gW]
    simp [wrW]
def zER (d:zA):zA:=⟨d.size,d.bytes,d.wear,d.steps,0,d.torn,false⟩
end Go.Proofs.YtplchdlgdjcojaaGreatDoor
end
section
namespace Go.Proofs.YtplchdlgdjcojaaGreatDoor
open Go
set_option linter.unusedVariables false
set_option linter.unusedSimpArgs false
def xP (n:Nat):Nat:=(n+63) / 64
def dl (b:List Int) (k:Nat):yV:=⟨(b.length:Int),64,List.replicate k true++List.replicate (xP b.length - k) false,b.take (64*k)++List.replicate (b.length - 64*k) 0⟩
def zAG (b:List Int) (k:Nat):List Int:=(b.take (min (64*k+64) b.length)).drop (64*k)
theorem cO (b:List Int) (k:Nat):(dl b k).Data.length=b.length:=by
 simp only [dl,List.length_append,List.length_take,List.length_replicate]; omega
theorem zJa (b:List Int) {k:Nat} (h:k≤xP b.length):(dl b k).Have.length=xP b.length:=by
 simp only [dl,List.length_append,List.length_replicate]; omega
theorem zJD {n:Nat} (h1:1≤n) (h2:n≤8192):xR (n:Int) 64=some true:=by
 unfold xR
 rw [decide_eq_true (by omega:(n:Int)≥1),cond_true,decide_eq_true (by omega:(n:Int)≤8192)]
 rfl
theorem zPw {n:Nat} (h:n=0∨8192<n):xR (n:Int) 64=some false:=by
 unfold xR
 rcases h with rfl | h
 ·rfl
 ·rw [decide_eq_true (by omega:(n:Int)≥1),cond_true,decide_eq_false (by omega:¬ (n:Int)≤8192)]
  rfl
theorem zKW {n:Nat} (h2:n≤8192):vN (n:Int) 64=some (xP n:Int):=by
 unfold vN
 rw [show ((n:Int)+64)=((n+64:Nat):Int) by omega,yS (by omega),show (((n+64:Nat):Int) - 1)=((n+63:Nat):Int) by omega,yS (by omega)]
 unfold zMq
 rw [if_neg (by omega),bnd_some,show (64:Int)=((64:Nat):Int) from rfl,zMS,yS (by omega)]
 rfl
theorem zRd {b:List Int} (h1:1≤b.length) (h2:b.length≤8192):vG (b.length:Int) 64=some (dl b 0,0):=by
 unfold vG
 have hc:xP b.length≤200:=by unfold xP; omega
 rw [zJD h1 h2,bnd_some,Bool.not_true,cond_false,zKW h2,bnd_some]
 have e1:mkS 1 false (xP b.length:Int) (xP b.length:Int)=some (List.replicate (xP b.length) false):=by
  unfold mkS
  rw [if_pos ⟨by omega,by omega,by omega,by omega⟩]
  simp
 have e2:mkS 1 (0:Int) (b.length:Int) (b.length:Int)=some (List.replicate b.length 0):=by
  unfold mkS
  rw [if_pos ⟨by omega,by omega,by omega,by omega⟩]
  simp
 rw [e1,bnd_some,e2,bnd_some]
 simp [dl]
theorem zRo {n:Nat} (h:n=0∨8192<n):vG (n:Int) 64=some (⟨0,0, [], []⟩,2):=by
 unfold vG
 rw [zPw h,bnd_some]
 rfl
theorem zJI (D:yV) {n i:Nat} (hz:D.Size=(n:Int)) (hp:D.Part=64) (hl:D.Data.length=n) (h2:n≤8192) (hi:i<xP n):
  sG D (i:Int)=some ((D.Data.take (min (64*i+64) n)).drop (64*i)):=by
 unfold sG
 have hc:64*i<n:=by unfold xP at hi; omega
 rw [hp,hz,show ((i:Int)*64)=((64*i:Nat):Int) by omega,yS (by omega),show (((64*i:Nat):Int)+64)=((64*i+64:Nat):Int) by omega,yS (by omega)]
 have hm:min ((64*i+64:Nat):Int) (n:Int)=((min (64*i+64) n:Nat):Int):=by omega
 rw [hm]
 unfold sub
 rw [if_pos ⟨by omega,by omega,by omega⟩,bnd_some,Int.toNat_natCast,Int.toNat_natCast]
theorem zTN {l:List Int} (h:∀ x∈l,x=0) (hl:l.length≤1000000):xX l=some false:=by
 unfold xX vM
 refine yD (a:= -1) ?_ rfl
 refine xY (fun i=>(i:Int)) l.length (.inr ()) rfl (fun i hi=>?_) ?_ rfl
 ·have hx:=h _ (List.getElem_mem hi)
  rw [decide_eq_true (by omega:(i:Int)<(l.length:Int)),cond_true,yU hi,bnd_some,hx]
  unfold pA
  rw [bnd_some,zR hi (by omega)]
  rfl
 ·rw [decide_eq_false (by omega:¬ (l.length:Int)<(l.length:Int))]
  rfl
theorem zQs {b:List Int} {k i:Nat} (hk:k≤i):∀ x∈((dl b k).Data.take (min (64*i+64) b.length)).drop (64*i),x=0:=by
 intro x hx
 have hd:((dl b k).Data.take (min (64*i+64) b.length)).drop (64*i)=((List.replicate (b.length - 64*k) (0:Int)).take (min (64*i+64) b.length - (b.take (64*k)).length)).drop (64*i - ((b.take (64*k)).take (min (64*i+64) b.length)).length):=by
  simp only [dl]
  rw [List.take_append,List.drop_append,List.drop_eq_nil_of_le,List.nil_append]
  simp only [List.length_take]; omega
 rw [hd] at hx
 exact List.eq_of_mem_replicate (List.mem_of_mem_take (List.mem_of_mem_drop hx))
theorem zCn {b:List Int} {k i:Nat} (hk:k≤xP b.length) (hi:i<xP b.length):elt (dl b k).Have (i:Int)=some (decide (i<k)):=by
 rw [elt_nat]
 simp only [dl]
 by_cases h:i<k
 ·rw [List.getElem?_append_left (by simpa using h),List.getElem?_replicate_of_lt h,decide_eq_true h]
 ·rw [List.getElem?_append_right (by simpa using h),List.length_replicate,List.getElem?_replicate_of_lt (by omega),decide_eq_false h]
theorem zIV {b:List Int} {k:Nat} (h1:1≤b.length) (h2:b.length≤8192) (hk:k≤xP b.length):uR (dl b k)=some true:=by
 unfold uR
 have hc:xP b.length≤200:=by unfold xP; omega
 have hh:=zJa b hk
 refine yD (a:=false) ?_ ?_
 ·show bnd (xR (b.length:Int) 64) _=_
  rw [zJD h1 h2,bnd_some,Bool.not_true,cond_false]
  show bnd (vN (b.length:Int) 64) _=_
  rw [zKW h2,bnd_some,hh,cO]
  simp only [bne_self_eq_false,cond_false]
  show some ((b.length:Int) != (b.length:Int))=_
  simp
 rw [cond_false,hh]
 refine xY (fun i=>(i:Int)) (xP b.length) (.inr ()) rfl (fun i hi=>?_) ?_ rfl
 ·rw [decide_eq_true (by omega:(i:Int)<(xP b.length:Int)),cond_true,zCn hk hi,bnd_some]
  refine yD (a:=false) ?_ ?_
  ·by_cases h:i<k
   ·rw [decide_eq_true h]; rfl
   ·rw [decide_eq_false h,Bool.not_false,cond_true,zJI (dl b k) rfl rfl (cO b k) h2 hi,bnd_some,zTN (zQs (by omega)) (by rw [List.length_drop,List.length_take,cO]; omega),bnd_some]
  ·rw [cond_false,zR hi (by omega)]
 ·rw [decide_eq_false (by omega:¬ (xP b.length:Int)<(xP b.length:Int))]
  rfl
theorem zMm {l:List Bool} (h:l.length≤1000000):wV l=some l:=by
 unfold wV
 rw [tC (by simp; omega) (by simp; omega),bnd_some]
 simp
theorem zNZ {b:List Int} {k:Nat} (h:k<xP b.length):(zAG b k).length=min 64 (b.length - 64*k):=by
 unfold zAG xP at*
 simp only [List.length_drop,List.length_take]; omega
theorem zQr {b:List Int} {k:Nat} (hk:k<xP b.length):((dl b k).Have).set k true=(dl b (k+1)).Have:=by
 apply List.ext_getElem?
 intro j
 simp only [dl,List.getElem?_set,List.getElem?_append,List.getElem?_replicate,List.length_append,List.length_replicate]
 by_cases h1:k=j
 ·subst h1
  simp; omega
 ·by_cases h2:j<k
  ·simp [h1,h2,show j<k+1 by omega]
  ·simp only [h1,h2,show ¬ j<k+1 by omega,if_false]
   by_cases h3:j<xP b.length
   ·rw [if_pos (by omega),if_pos (by omega)]
   ·rw [if_neg (by omega),if_neg (by omega)]
theorem zQA {b:List Int} {k:Nat} (hk:k<xP b.length):(dl b k).Data.take (64*k)++(zAG b k).take (min (zAG b k).length (min 64 (b.length - 64*k)))++(dl b k).Data.drop (64*k+min (zAG b k).length (min 64 (b.length - 64*k)))=(dl b (k+1)).Data:=by
 have hl:=zNZ hk
 have hc:64*k<b.length:=by unfold xP at hk; omega
 have hA:(b.take (64*k)).length=64*k:=by rw [List.length_take]; omega
 have e1:(dl b k).Data.take (64*k)=b.take (64*k):=by
  simp only [dl]
  rw [List.take_append_of_le_length (by omega),List.take_take,Nat.min_self]
 have e2:(dl b k).Data.drop (64*k+min 64 (b.length - 64*k))=List.replicate (b.length - 64*(k+1)) 0:=by
  simp only [dl]
  rw [List.drop_append,List.drop_eq_nil_of_le (by omega),List.nil_append,hA,List.drop_replicate]
  congr 1
  omega
 have e3:(zAG b k).take (min 64 (b.length - 64*k))=zAG b k:=List.take_of_length_le (by omega)
 rw [hl,Nat.min_self,e1,e2,e3]
 have e4:b.take (64*k)++zAG b k=b.take (64*(k+1)):=by
  unfold zAG
  have h5:=List.take_append_drop (64*k) (b.take (min (64*k+64) b.length))
  rw [List.take_take,show min (64*k) (min (64*k+64) b.length)=64*k by omega] at h5
  rw [h5]
  by_cases h6:64*k+64≤b.length
  ·rw [show min (64*k+64) b.length=64*(k+1) by omega]
  ·rw [show min (64*k+64) b.length=b.length by omega,List.take_length,List.take_of_length_le (by omega)]
 rw [e4]
 rfl
theorem zTE {b:List Int} {k:Nat} (h1:1≤b.length) (h2:b.length≤8192) (hk:k<xP b.length):rJ (dl b k) (k:Int) (zAG b k)=some (dl b (k+1),0):=by
 unfold rJ
 have hc:xP b.length≤200:=by unfold xP; omega
 have h64:64*k<b.length:=by unfold xP at hk; omega
 have hh:=zJa b (Nat.le_of_lt hk)
 have hsl:=zNZ hk
 rw [zIV h1 h2 (by omega),bnd_some,Bool.not_true,cond_false,decide_eq_false (by omega:¬ (k:Int)<0),cond_false,bnd_some,hh,decide_eq_false (by omega:¬ (k:Int)≥(xP b.length:Int)),cond_false]
 rw [zJI (dl b k) rfl rfl (cO b k) h2 hk,bnd_some]
 have hpl:(((dl b k).Data.take (min (64*k+64) b.length)).drop (64*k)).length=(zAG b k).length:=by
  rw [hsl,List.length_drop,List.length_take,cO]; omega
 rw [hpl,show (((zAG b k).length:Int) != ((zAG b k).length:Int))=false by simp,cond_false]
 refine yD (a:=false) ?_ ?_
 ·rw [zCn (by omega) hk,bnd_some,decide_eq_false (by omega)]
  rfl
 rw [cond_false,zMm (by omega),bnd_some,lH (by rw [cO]; omega),bnd_some,zCn (by omega) hk,bnd_some]
 have hs:rZ (dl b k).Have (k:Int) true=some ((dl b (k+1)).Have):=by
  rw [lO (by omega),zQr hk]
 rw [hs,bnd_some]
 have hp0:qC (⟨(dl b k).Size,(dl b k).Part,(dl b (k+1)).Have,(dl b k).Data⟩:yV) (k:Int)=some (64*k,min 64 (b.length - 64*k)):=by
  unfold qC
  simp only
  have e1:(dl b k).Part=64:=rfl
  have e2:(dl b k).Size=(b.length:Int):=rfl
  rw [e1,e2,cO,show ((k:Int)*64)=((64*k:Nat):Int) by omega,yS (by omega),show (((64*k:Nat):Int)+64)=((64*k+64:Nat):Int) by omega,yS (by omega)]
  unfold mX
  rw [if_pos ⟨by omega,by omega,by omega⟩,bnd_some]
  congr 2
  omega
 rw [hp0,bnd_some]
 have hcp:jR (dl b k).Data (64*k) (min 64 (b.length - 64*k)) (zAG b k)=some ((dl b (k+1)).Data):=by
  unfold jR
  rw [if_pos (by rw [cO]; omega)]
  have:=zQA hk
  rw [hsl,Nat.min_self] at this ⊢
  rw [this]
 simp only
 rw [hcp,bnd_some]
 rfl
theorem zRF {l:List Bool} {k m:Nat} (h:l=List.replicate k true++List.replicate m false) (hl:k+m≤1000000):vI l false=some (decide (0<m)):=by
 unfold vI sU
 have hlen:l.length=k+m:=by rw [h]; simp
 have hg:∀ i,i<k+m→elt l (i:Int)=some (decide (i<k)):=fun i hi=>by
  rw [elt_nat,h]
  by_cases hk:i<k
  ·rw [List.getElem?_append_left (by simpa using hk),List.getElem?_replicate_of_lt hk,decide_eq_true hk]
  ·rw [List.getElem?_append_right (by simpa using hk),List.length_replicate,List.getElem?_replicate_of_lt (by omega),decide_eq_false hk]
 by_cases hm:0<m
 ·refine yD (a:=(k:Int)) ?_ (by rw [decide_eq_true (by omega:(k:Int)≥0),decide_eq_true hm])
  refine yD (a:=.inl (k:Int)) ?_ rfl
  refine pO (fun i=>(i:Int)) k (fun i hi=>?_) ?_
  ·rw [hlen,decide_eq_true (by omega:(i:Int)<((k+m:Nat):Int)),cond_true,hg i (by omega),bnd_some,decide_eq_true hi,zR hi (by omega)]
   rfl
  ·rw [hlen,decide_eq_true (by omega:(k:Int)<((k+m:Nat):Int)),cond_true,hg k (by omega),bnd_some,decide_eq_false (by omega)]
   rfl
 ·refine yD (a:= -1) ?_ (by rw [decide_eq_false (by omega:¬ 0<m)]; rfl)
  refine xY (fun i=>(i:Int)) (k+m) (.inr ()) rfl (fun i hi=>?_) ?_ rfl
  ·rw [hlen,decide_eq_true (by omega:(i:Int)<((k+m:Nat):Int)),cond_true,hg i hi,bnd_some,decide_eq_true (by omega),zR hi (by omega)]
   rfl
  ·rw [hlen,decide_eq_false (by omega:¬ ((k+m:Nat):Int)<((k+m:Nat):Int))]
   rfl
theorem zHy {b:List Int} {k:Nat} (h1:1≤b.length) (h2:b.length≤8192) (hk:k≤xP b.length):wO (dl b k)=some (decide (k=xP b.length)):=by
 unfold wO
 have hc:xP b.length≤200:=by unfold xP; omega
 rw [zIV h1 h2 hk,bnd_some,cond_true,zRF (l:=(dl b k).Have) (k:=k) (m:=xP b.length - k) rfl (by omega),bnd_some,bnd_some]
 congr 1
 by_cases h:k=xP b.length
 ·rw [decide_eq_true h,decide_eq_false (by omega)]; rfl
 ·rw [decide_eq_false h,decide_eq_true (by omega)]; rfl
theorem zTb (b:List Int):(dl b (xP b.length)).Data=b:=by
 simp only [dl]
 have:b.length≤64*xP b.length:=by unfold xP; omega
 rw [List.take_of_length_le this,show b.length - 64*xP b.length=0 by omega]
 simp
theorem zUT {b:List Int} (h1:1≤b.length) (h2:b.length≤8192):sF (dl b (xP b.length))=some (b,0):=by
 unfold sF
 rw [zIV h1 h2 (Nat.le_refl _),bnd_some,Bool.not_true,cond_false,zHy h1 h2 (Nat.le_refl _),bnd_some,decide_eq_true rfl,Bool.not_true,cond_false,lH (by rw [cO]; omega),bnd_some,zTb]
theorem zTT {b:List Int} (h1:1≤b.length) (h2:b.length≤8192) (m:Int):rI (dl b (xP b.length)) m=some []:=by
 unfold rI
 have hc:xP b.length≤200:=by unfold xP; omega
 rw [zIV h1 h2 (Nat.le_refl _),bnd_some,Bool.not_true,cond_false,zJa b (Nat.le_refl _)]
 refine xY (fun i=>([],(i:Int))) (xP b.length) [] rfl (fun i hi=>?_) ?_ rfl
 ·simp only
  rw [decide_eq_true (by omega:(i:Int)<(xP b.length:Int)),cond_true,zCn (Nat.le_refl _) hi,bnd_some,decide_eq_true hi,Bool.not_true,cond_false,bnd_some,cond_false,zR hi (by omega)]
 ·simp only
  rw [decide_eq_false (by omega:¬ (xP b.length:Int)<(xP b.length:Int))]
  rfl
end Go.Proofs.YtplchdlgdjcojaaGreatDoor
end
section
namespace Go.Proofs.YtplchdlgdjcojaaGreatDoor
open Go
set_option linter.unusedSimpArgs false
set_option linter.unusedVariables false
def itN {α:Type} (f:α→α):Nat→α→α
 | 0,x=>x
 | n+1,x=>f (itN f n x)
def kN (x:Int):Prop:=0≤x∧x≤4294967295
theorem dX (x:Int):kN (IntKind.wrap .u32 x):=by
 rw [lL]
 constructor <;> omega
theorem cH (x y:Int):kN (fG .u32 x y):=dX _
def zFH (c:Int):Int:=fG .u32 (uA .u32 c 1) (IntKind.wrap .u32 ((rO .u32 c 1)*3988292384))
def zMR (c x:Int):Int:=itN zFH 8 (fG .u32 c (IntKind.wrap .u32 x))
def zCJ (l:List Int):Int:=l.foldl zMR 4294967295
theorem zNk (c:Int):kN (zFH c):=cH _ _
theorem zHb {c:Int} (h:kN c):∀ n,kN (itN zFH n c)
 | 0=>h
 | n+1=>zNk _
theorem zLV (c x:Int):kN (zMR c x):=zHb (cH _ _) 8
theorem zIB (l:List Int):kN (zCJ l):=by
 unfold zCJ
 have:∀ (l:List Int) (c:Int),kN c→kN (l.foldl zMR c):=by
  intro l
  induction l with
  | nil=>intro c h; exact h
  | cons x r ih=>intro c _; exact ih _ (zLV c x)
 exact this l _ ⟨by omega,by omega⟩
theorem eO {x:Int} (h:kN x):(BitVec.ofInt 32 x).toNat=x.toNat:=by
 rw [BitVec.toNat_ofInt]
 have:=h.1
 have:=h.2
 omega
theorem zKT {x:Int} (h:kN x):fG .u32 x 0=x:=by
 unfold fG
 have e:(BitVec.ofInt (IntKind.bits .u32) x ^^^ BitVec.ofInt (IntKind.bits .u32) 0).toNat=x.toNat:=by
  show (BitVec.ofInt 32 x ^^^ BitVec.ofInt 32 0).toNat=_
  rw [←eO h]
  simp
 rw [e,lL]
 have:=h.1
 have:=h.2
 omega
theorem zMp {x:Int} (h:kN x):rO .u32 x 1=x % 2:=by
 unfold rO
 have e:(BitVec.ofInt (IntKind.bits .u32) x&&&BitVec.ofInt (IntKind.bits .u32) 1).toNat=x.toNat % 2:=by
  show (BitVec.ofInt 32 x&&&BitVec.ofInt 32 1).toNat=_
  rw [BitVec.toNat_and,eO h]
  have:(BitVec.ofInt 32 1).toNat=1:=by decide
  rw [this,Nat.and_one_is_mod]
 rw [e,lL]
 have:=h.1
 have:=h.2
 omega
theorem zME {x:Int} (h:kN x):uA .u32 x 1=x / 2:=by
 unfold uA
 have:(2:Int) ^ (min (Int.toNat 1) (IntKind.bits .u32))=2:=by decide
 rw [this,Int.fdiv_eq_ediv_of_nonneg _ (by omega)]
theorem zSl {c:Int} (h:kN c):zFH c=bif (c.tmod 2==1) then fG .u32 (IntKind.wrap .u32 (c.tdiv 2)) 3988292384 else IntKind.wrap .u32 (c.tdiv 2):=by
 unfold zFH
 have h0:=h.1
 have h1:=h.2
 have hd:IntKind.wrap .u32 (c.tdiv 2)=c / 2:=by
  rw [Int.tdiv_eq_ediv_of_nonneg h0,zLd (by omega) (by omega)]
 have hm:c.tmod 2=c % 2:=Int.tmod_eq_emod_of_nonneg h0
 rw [zME h,zMp h,hd,hm]
 rcases Int.emod_two_eq c with h2 | h2
 ·rw [h2]
  have:IntKind.wrap .u32 (0*3988292384)=0:=by rw [lL]; decide
  rw [this,zKT ⟨by omega,by omega⟩]
  rfl
 ·rw [h2]
  have:IntKind.wrap .u32 (1*3988292384)=3988292384:=by rw [lL]; decide
  rw [this]
  rfl
theorem zSS {c:Int} (h:kN c):fG .u32 (if IntKind.signed .u32 then -1 else IntKind.max .u32) c=IntKind.wrap .u32 (4294967295 - c):=by
 have h0:=h.1
 have h1:=h.2
 have em:(if IntKind.signed .u32 then -1 else IntKind.max .u32:Int)=4294967295:=by decide
 rw [em]
 unfold fG
 have e:(BitVec.ofInt (IntKind.bits .u32) 4294967295 ^^^ BitVec.ofInt (IntKind.bits .u32) c).toNat=4294967295 - c.toNat:=by
  show (BitVec.ofInt 32 4294967295 ^^^ BitVec.ofInt 32 c).toNat=_
  have:BitVec.ofInt 32 4294967295=BitVec.allOnes 32:=by decide
  rw [this,←BitVec.not_def,BitVec.toNat_not,eO h]
 rw [e]
 congr 1
 omega
theorem zHc {α σ:Type} {m:σ × Int→Option (rN (σ × Int) σ)} (xs:List α) (f:σ→α→σ) (s0:σ) (hn:xs.length≤140737488355328) (I:σ→Prop) (hI:I s0) (hf:∀ s x,I s→I (f s x))
  (hs:∀ (i:Nat) (s:σ) (h:i<xs.length),I s→m (s,(i:Int))=some (.next (f s xs[i],((i+1:Nat):Int)))) (hd:∀ s,m (s,(xs.length:Int))=some (.done s)):yE m (s0,0)=some (xs.foldl f s0):=by
 have hI2:∀ n,I ((xs.take n).foldl f s0):=by
  intro n
  have:∀ (l:List α) (s:σ),I s→I (l.foldl f s):=by
   intro l
   induction l with
   | nil=>intro s h; exact h
   | cons x r ih=>intro s h; exact ih _ (hf s x h)
  exact this _ _ hI
 have:=pO (m:=m) (fun i=>((xs.take i).foldl f s0,(i:Int))) xs.length (t:=xs.foldl f s0) (fun i hi=>?_) (by simp only [List.take_length]; exact hd _)
 ·simpa using this
 ·rw [hs i _ hi (hI2 i),xK hi,List.foldl_append]
  rfl
theorem zEW (b:List Int) (hb:b.length≤140737488355328):wD b=some (IntKind.wrap .u32 (4294967295 - zCJ b)):=by
 unfold wD
 rw [zHc b zMR 4294967295 hb (fun _=>True) trivial (fun _ _ _=>trivial) (fun i s hi _=>?_) (fun s=>by simp)]
 ·simp only [bnd_some]
  exact congrArg some (zSS (zIB b))
 ·have h1:decide ((i:Int)<(b.length:Int))=true:=by simpa using hi
  simp only [h1,cond_true,yU hi,bnd_some]
  have:=pO (m:=fun (s2:Int × Int)=>bif decide (s2.2<8) then (some (.next (fG .u32 (uA .u32 s2.1 1) (IntKind.wrap .u32 ((rO .u32 s2.1 1)*3988292384)),IntKind.wrap .i64 (s2.2+1)))) else (some (.done s2.1))) (fun k=>(itN zFH k (fG .u32 s (IntKind.wrap .u32 b[i])),(k:Int))) 8 (t:=zMR s b[i]) (fun k hk=>by
   have:decide ((k:Int)<8)=true:=by simp; omega
   simp only [this,cond_true]
   rw [zR (n:=8) hk (by omega)]
   rfl) rfl
  simp only [itN,Int.ofNat_zero] at this
  rw [this]
  simp only [bnd_some]
  rw [zR hi hb]
theorem zNN (b:List Int) (hb:b.length≤140737488355328):pS b=some (IntKind.wrap .u32 (4294967295 - zCJ b)):=by
 unfold pS
 rw [zHc b zMR 4294967295 hb (fun _=>True) trivial (fun _ _ _=>trivial) (fun i s hi _=>?_) (fun s=>by simp)]
 ·rfl
 ·have h1:decide ((i:Int)<(b.length:Int))=true:=by simpa using hi
  simp only [h1,cond_true,yU hi,bnd_some]
  have:=pO (m:=fun (s2:Int × Int)=>bif decide (s2.2<8) then (bif ((s2.1.tmod 2)==1) then (some (.next (fG .u32 (IntKind.wrap .u32 (s2.1.tdiv 2)) 3988292384,IntKind.wrap .i64 (s2.2+1)))) else (some (.next (IntKind.wrap .u32 (s2.1.tdiv 2),IntKind.wrap .i64 (s2.2+1))))) else (some (.done s2.1))) (fun k=>(itN zFH k (fG .u32 s (IntKind.wrap .u32 b[i])),(k:Int))) 8 (t:=zMR s b[i]) (fun k hk=>by
   have h2:decide ((k:Int)<8)=true:=by simp; omega
   simp only [h2,cond_true]
   rw [zR (n:=8) hk (by omega)]
   have hr:kN (itN zFH k (fG .u32 s (IntKind.wrap .u32 b[i]))):=zHb (cH _ _) k
   show _=some (rN.next (zFH (itN zFH k (fG .u32 s (IntKind.wrap .u32 b[i]))),_))
   rw [zSl hr]
   cases ((itN zFH k (fG .u32 s (IntKind.wrap .u32 b[i]))).tmod 2==1) <;> rfl) rfl
  simp only [itN,Int.ofNat_zero] at this
  rw [this]
  simp only [bnd_some]
  rw [zR hi hb]
end Go.Proofs.YtplchdlgdjcojaaGreatDoor
end
section
namespace Go.Proofs.YtplchdlgdjcojaaGreatDoor
open Go
set_option linter.unusedSimpArgs false
set_option linter.unusedVariables false
theorem zUa {s:ByteArray} {i:Nat} (h:i<s.size):eltS s (i:Int)=some ((s[i]).toNat:Int):=by
 simp [eltS,h]
def chI (s:ByteArray) (i:Nat):Int:=((s[i]?).map fun b=>(b.toNat:Int)).getD 0
theorem zIt {s:ByteArray} {i:Nat} (h:i<s.size):eltS s (i:Int)=some (chI s i):=by
 rw [zUa h]
 simp [chI,h]
def jW (y:Int):Bool:=decide (y≥97)&&decide (y≤122)
def zGE (y:Int):Bool:=decide (y≥48)&&decide (y≤57)||(y==45)
def sI (s:ByteArray):Bool:=decide (1≤s.size)&&decide (s.size≤16)&&(jW (chI s 0)&&(List.range s.size).all fun i=>jW (chI s i)||zGE (chI s i))
theorem zDx (s:ByteArray):uF s=some (sI s):=by
 unfold uF
 by_cases h1:s.size<1
 ·have:decide ((s.size:Int)<1)=true:=by simp; omega
  have h2:decide (1≤s.size)=false:=decide_eq_false (by omega)
  simp [this,sI,h2]
 by_cases h2:s.size>16
 ·have e1:decide ((s.size:Int)<1)=false:=by simp; omega
  have e2:decide ((s.size:Int)>16)=true:=by simp; omega
  have e3:decide (s.size≤16)=false:=by simp; omega
  simp [e1,e2,sI,e3]
 have e1:decide ((s.size:Int)<1)=false:=by simp; omega
 have e2:decide ((s.size:Int)>16)=false:=by simp; omega
 simp only [e1,e2,cond_false,bnd_some]
 have hl:=zEO (m:=fun (s1:Int)=>bif decide (s1<(s.size:Int)) then (bnd ((bnd (eltS s s1) fun y1=>bif decide (y1≥97) then (some (decide (y1≤122))) else (some false):Option Bool)) fun o4=>bnd ((bnd (eltS s s1) fun y2=>bif decide (y2≥48) then (bif decide (y2≤57) then (some true) else (some (y2==45))) else (some (y2==45)):Option Bool)) fun o5=>bnd ((bif !o4 then (bif (s1==0) then (some true) else (some (!o5))) else (some false):Option Bool)) fun o6=>bif o6 then (some (.done (.inl false))) else (some (.next (IntKind.wrap .i64 (s1+1))))) else (some (.done (.inr ()))))
  (fun i=>(i:Int)) s.size (fun i=>!jW (chI s i)&&(decide (i=0)||!zGE (chI s i))) (u:=(Sum.inl false:Bool ⊕ Unit)) (t:=.inr ()) (fun i hi=>?_) (by simp)
 ·rw [show ((0:Nat):Int)=0 from rfl] at hl
  rw [hl]
  simp only [bnd_some]
  have hn:sI s=!(List.range s.size).any (fun i=>!jW (chI s i)&&(decide (i=0)||!zGE (chI s i))):=by
   unfold sI
   have d1:decide (1≤s.size)=true:=by simp; omega
   have d2:decide (s.size≤16)=true:=by simp; omega
   rw [d1,d2,Bool.eq_iff_iff]
   simp only [Bool.true_and,Bool.and_eq_true,List.all_eq_true,List.mem_range,Bool.or_eq_true,Bool.not_eq_true',List.any_eq_false,decide_eq_true_eq,not_and,not_or]
   constructor
   ·rintro ⟨g1,g2⟩ i hi hc
    rcases g2 i hi with g | g
    ·simp [g] at hc
    ·refine ⟨fun h0=>?_,by simp [g]⟩
     subst h0
     simp [g1] at hc
   ·intro g
    have hlet0:jW (chI s 0)=true:=by
     cases hc:jW (chI s 0)
     ·exact absurd rfl (g 0 (by omega) (by simp [hc])).1
     ·rfl
    refine ⟨hlet0,fun i hi=>?_⟩
    cases hc:jW (chI s i)
    ·right
     have:=(g i hi (by simp [hc])).2
     simpa using this
    ·exact .inl rfl
  rw [hn]
  cases (List.range s.size).any (fun i=>!jW (chI s i)&&(decide (i=0)||!zGE (chI s i))) <;> rfl
 ·have h3:decide ((i:Int)<(s.size:Int))=true:=by simpa using hi
  have h4:((i:Int)==0)=decide (i=0):=by
   rw [Bool.eq_iff_iff]; simp
  simp only [h3,cond_true,zIt hi,bnd_some,h4,zR hi (by omega:s.size≤140737488355328),jW,zGE]
  cases decide (chI s i≥97) <;> cases decide (chI s i≤122) <;> cases decide (chI s i≥48) <;> cases decide (chI s i≤57) <;> cases (chI s i==45) <;> cases decide (i=0) <;> rfl
theorem zKQ (s:ByteArray):nD s=some (sI s):=by
 unfold nD
 by_cases h1:s.size<1
 ·have:decide ((s.size:Int)<1)=true:=by simp; omega
  have h2:decide (1≤s.size)=false:=decide_eq_false (by omega)
  simp [this,sI,h2]
 by_cases h2:s.size>16
 ·have e1:decide ((s.size:Int)<1)=false:=by simp; omega
  have e2:decide ((s.size:Int)>16)=true:=by simp; omega
  have e3:decide (s.size≤16)=false:=by simp; omega
  simp [e1,e2,sI,e3]
 have e1:decide ((s.size:Int)<1)=false:=by simp; omega
 have e2:decide ((s.size:Int)>16)=false:=by simp; omega
 have hc0:eltS s 0=some (chI s 0):=zIt (i:=0) (by omega)
 have d1:decide (1≤s.size)=true:=by simp; omega
 have d2:decide (s.size≤16)=true:=by simp; omega
 simp only [e1,e2,cond_false,bnd_some,hc0]
 cases hl0:jW (chI s 0)
 ·have hn:sI s=false:=by simp [sI,hl0]
  rw [hn]
  simp only [jW,Bool.and_eq_false_iff,decide_eq_false_iff_not] at hl0
  by_cases g:chI s 0<97
  ·simp [g]
  ·have g2:chI s 0>122:=by omega
   simp [g,g2]
 ·have hl1:=hl0
  simp only [jW,Bool.and_eq_true,decide_eq_true_eq] at hl1
  have g1:decide (chI s 0<97)=false:=by simp; omega
  have g2:decide (chI s 0>122)=false:=by simp; omega
  simp only [g1,g2,cond_false,bnd_some]
  have hl:=zEO (m:=fun (s1:Int)=>bif decide (s1<(s.size:Int)) then (bnd ((bnd (eltS s s1) fun y2=>bif decide (y2≥97) then (bif decide (y2≤122) then (some false) else (bif decide (y2≥48) then (bif decide (y2≤57) then (some false) else (some (!(y2==45)))) else (some (!(y2==45))))) else (bif decide (y2≥48) then (bif decide (y2≤57) then (some false) else (some (!(y2==45)))) else (some (!(y2==45)))):Option Bool)) fun o4=>bif o4 then (some (.done (.inl false))) else (some (.next (IntKind.wrap .i64 (s1+1))))) else (some (.done (.inr ()))))
   (fun i=>(i:Int)) s.size (fun i=>!(jW (chI s i)||zGE (chI s i))) (u:=(Sum.inl false:Bool ⊕ Unit)) (t:=.inr ()) (fun i hi=>?_) (by simp)
  ·rw [show ((0:Nat):Int)=0 from rfl] at hl
   rw [hl]
   simp only [bnd_some]
   have hn:sI s=!(List.range s.size).any (fun i=>!(jW (chI s i)||zGE (chI s i))):=by
    unfold sI
    rw [d1,d2,hl0,Bool.eq_iff_iff]
    simp only [Bool.true_and,List.all_eq_true,List.mem_range,Bool.or_eq_true,Bool.not_eq_true',List.any_eq_false,Bool.not_eq_true,Bool.not_eq_false']
    constructor
    ·intro g x hx hf
     rcases g x hx with g | g <;> simp [g] at hf
    ·intro g x hx
     have:=g x hx
     cases a:jW (chI s x)
     ·cases b:zGE (chI s x)
      ·simp [a,b] at this
      ·exact .inr rfl
     ·exact .inl rfl
   rw [hn]
   cases (List.range s.size).any (fun i=>!(jW (chI s i)||zGE (chI s i))) <;> rfl
  ·have h3:decide ((i:Int)<(s.size:Int))=true:=by simpa using hi
   simp only [h3,cond_true,zIt hi,bnd_some,zR hi (by omega:s.size≤140737488355328),jW,zGE]
   cases decide (chI s i≥97) <;> cases decide (chI s i≤122) <;> cases decide (chI s i≥48) <;> cases decide (chI s i≤57) <;> cases (chI s i==45) <;> rfl
def zLJ (n:Int):Bool:=decide (0≤n)&&decide (n≤999)
def iI (v:zJ):Bool:=zLJ v.Major&&(zLJ v.Minor&&zLJ v.Patch)
theorem dlt (a b:Int):decide (a<b)=!decide (b≤a):=by
 by_cases h:b≤a
 ·have:¬ a<b:=by omega
  simp [h,this]
 ·have:a<b:=by omega
  simp [h,this]
theorem zJH (v:zJ):vJ v=some (iI v):=by
 unfold vJ vA iI zLJ
 simp only [bnd_some,gt_iff_lt,dlt]
 cases decide (0≤v.Major) <;> cases decide (v.Major≤999) <;> cases decide (0≤v.Minor) <;> cases decide (v.Minor≤999) <;> cases decide (0≤v.Patch) <;> cases decide (v.Patch≤999) <;> rfl
theorem zNB (v:zJ):pT v=some (iI v):=by
 unfold pT iI zLJ
 simp only [ge_iff_le]
 cases decide (0≤v.Major) <;> cases decide (v.Major≤999) <;> cases decide (0≤v.Minor) <;> cases decide (v.Minor≤999) <;> cases decide (0≤v.Patch) <;> cases decide (v.Patch≤999) <;> rfl
def wI (i:zI):Bool:=sI i.Name&&(iI i.Version&&(decide (1≤i.Data.length)&&decide (i.Data.length≤512)))
theorem gS (i:zI):tB i=some (wI i):=by
 unfold tB wI
 have e1:decide ((i.Data.length:Int)≥1)=decide (1≤i.Data.length):=by rw [Bool.eq_iff_iff]; simp; omega
 have e2:decide ((i.Data.length:Int)≤512)=decide (i.Data.length≤512):=by rw [Bool.eq_iff_iff]; simp; omega
 simp only [zDx,zJH,bnd_some,e1,e2]
 cases sI i.Name <;> cases iI i.Version <;> cases decide (1≤i.Data.length) <;> cases decide (i.Data.length≤512) <;> rfl
theorem zDj (i:zI):pV i=some (wI i):=by
 unfold pV wI
 have e1:decide ((i.Data.length:Int)≥1)=decide (1≤i.Data.length):=by rw [Bool.eq_iff_iff]; simp; omega
 have e2:decide ((i.Data.length:Int)≤512)=decide (i.Data.length≤512):=by rw [Bool.eq_iff_iff]; simp; omega
 simp only [zKQ,zNB,bnd_some,e1,e2]
 cases sI i.Name <;> cases iI i.Version <;> cases decide (1≤i.Data.length) <;> cases decide (i.Data.length≤512) <;> rfl
theorem rT {i:zI} (h:wI i=true):sI i.Name=true∧iI i.Version=true∧1≤i.Data.length∧i.Data.length≤512:=by
 simpa [wI] using h
theorem tL {s:ByteArray} (h:sI s=true):1≤s.size∧s.size≤16:=by
 simp only [sI,Bool.and_eq_true,decide_eq_true_eq] at h
 exact h.1
theorem qV (s:ByteArray):(nI s).length=s.size:=by simp [nI,ByteArray.toList_eq]
def two (n:Int):List Int:= [IntKind.wrap .u8 (uA .i64 n 8),IntKind.wrap .u8 n]
def zAF (v:zJ):List Int:=two v.Major++(two v.Minor++two v.Patch)
def zFt (i:zI):List Int:=IntKind.wrap .u8 (i.Name.size:Int)::(nI i.Name++(zAF i.Version++(two (i.Data.length:Int)++i.Data)))
theorem nC {xs ys:List Int} (h:xs.length+ys.length≤140737488355328):app 1 xs ys=some (xs++ys):=tC (by omega) (by omega)
theorem aG {i:zI} (h:i.Name.size≤16∧i.Data.length≤512):(zFt i).length≤600:=by
 simp [zFt,zAF,two,qV]
 omega
theorem zFA {i:zI} (h:i.Name.size≤16∧i.Data.length≤512):qK i=some (zFt i):=by
 have hb:=qV i.Name
 unfold qK rU vT uY
 rw [nC (by simp)]
 simp only [bnd_some,List.nil_append]
 rw [nC (by simp [hb]; omega)]
 simp only [bnd_some]
 rw [nC (by simp [hb]; omega)]
 simp only [bnd_some]
 rw [nC (by simp [hb]; omega)]
 simp only [bnd_some]
 rw [nC (by simp [hb]; omega)]
 simp only [bnd_some]
 rw [nC (by simp [hb]; omega)]
 simp only [bnd_some]
 rw [nC (by simp [hb]; omega)]
 simp [zFt,zAF,two]
theorem zHm {i:zI} (h:i.Name.size≤16∧i.Data.length≤512):pW i=some (zFt i):=by
 have hb:=qV i.Name
 unfold pW pC uI qT
 rw [nC (by simp [hb]; omega)]
 simp only [bnd_some]
 rw [nC (by simp)]
 simp only [bnd_some]
 rw [nC (by simp)]
 simp only [bnd_some]
 rw [nC (by simp [hb]; omega)]
 simp only [bnd_some]
 rw [nC (by simp [hb]; omega)]
 simp only [bnd_some]
 rw [nC (by simp [hb]; omega)]
 simp [zFt,zAF,two]
def kH (i:zI):Int:=bif wI i then IntKind.wrap .u32 (4294967295 - zCJ (zFt i)) else 0
theorem zBz (i:zI):qX i=some (kH i):=by
 unfold qX kH
 rw [gS]
 cases h:wI i
 ·rfl
 ·obtain ⟨h1,h2,h3,h4⟩:=rT h
  have hs:i.Name.size≤16∧i.Data.length≤512:=⟨(tL h1).2,h4⟩
  have hl:=aG hs
  simp only [bnd_some,Bool.not_true,cond_false,zFA hs]
  rw [zEW _ (by omega)]
  rfl
theorem zOk (i:zI):jS i=some (kH i):=by
 unfold jS kH
 rw [zDj]
 cases h:wI i
 ·rfl
 ·obtain ⟨h1,h2,h3,h4⟩:=rT h
  have hs:i.Name.size≤16∧i.Data.length≤512:=⟨(tL h1).2,h4⟩
  have hl:=aG hs
  simp only [bnd_some,Bool.not_true,cond_false,zHm hs]
  rw [zNN _ (by omega)]
  rfl
theorem zBp (i:zI):kN (kH i):=by
 unfold kH
 cases wI i
 ·exact ⟨by show (0:Int)≤0; omega,by show (0:Int)≤4294967295; omega⟩
 ·exact dX _
def zCH (s:yF):Bool:=wI s.Image&&(s.Sum==kH s.Image)
def nP (s:yF) (n:ByteArray):Bool:=zCH s&&decide (s.Image.Name=n)
theorem zNf (s:yF):iW s=some (zCH s):=by
 unfold iW zCH
 simp only [gS,zBz,bnd_some]
 cases wI s.Image <;> rfl
theorem zFI (d:zB) (s:yF):oU d s=some (nP s d.Name):=by
 unfold oU nP
 simp only [zNf,bnd_some,cA]
 cases zCH s <;> rfl
end Go.Proofs.YtplchdlgdjcojaaGreatDoor
end
section
namespace Go.Proofs.YtplchdlgdjcojaaGreatDoor
open Go
set_option linter.unusedSimpArgs false
set_option linter.unusedVariables false
def bit (k:Int):Prop:=k=0∨k=1
instance (k:Int):Decidable (bit k):=by unfold bit; infer_instance
def qM (a:qS yF) (k:Int):yF:=if k=0 then a.e0 else a.e1
def kP (a:qS yF) (k:Int) (y:yF):qS yF:=if k=0 then ⟨y,a.e1⟩ else ⟨a.e0,y⟩
def zSe:zI:=⟨⟨#[]⟩,⟨0,0,0⟩, []⟩
def kF:yF:=⟨zSe,0⟩
def zAo:zB:=⟨⟨#[]⟩,⟨kF,kF⟩,0,0,false⟩
theorem zGt (a:qS yF) {k:Int} (h:bit k):elt [a.e0,a.e1] k=some (qM a k):=by
 rcases h with rfl | rfl <;> rfl
theorem zWv (a:qS yF) (y:yF) {k:Int} (h:bit k):qS.set a k y=some (kP a k y):=by
 rcases h with rfl | rfl <;> rfl
theorem zWt {k:Int} (h:bit k):IntKind.wrap .i64 (1 - k)=1 - k:=by
 rcases h with rfl | rfl <;> exact yQ (by omega) (by omega)
theorem qE {k:Int} (h:bit k):bit (1 - k):=by rcases h with rfl | rfl <;> simp [bit]
theorem zFW {a:qS yF} {y:yF} {k:Int}:qM (kP a k y) k=y:=by
 unfold qM kP; by_cases h:k=0 <;> simp [h]
theorem zLo {a:qS yF} {y:yF} {k j:Int} (hk:bit k) (hj:bit j) (h:j≠k):qM (kP a k y) j=qM a j:=by
 rcases hk with rfl | rfl <;> rcases hj with rfl | rfl <;> simp_all [qM,kP]
def lP (d:zB):Bool:=
 decide (bit d.Active)&&(decide (bit d.Running)&&(nP (qM d.Slots d.Active) d.Name&&(nP (qM d.Slots d.Running) d.Name&&(!d.Trial||(decide (d.Running=d.Active)&&nP (qM d.Slots (1 - d.Active)) d.Name)))))
theorem zHa (k:Int):k<0∨bit k∨k>1:=by unfold bit; omega
theorem mZ (d:zB):uC d=some (lP d):=by
 unfold uC lP uW
 simp only [zFI,bnd_some]
 rcases zHa d.Active with h | h | h
 ·have h1:¬ bit d.Active:=by unfold bit; omega
  simp [h,h1]
 ·have g1:decide (d.Active<0)=false:=by rcases h with h | h <;> rw [h] <;> rfl
  have g2:decide (d.Active>1)=false:=by rcases h with h | h <;> rw [h] <;> rfl
  simp only [g1,g2,cond_false,h,decide_true,Bool.true_and,zGt _ h,bnd_some]
  rcases zHa d.Running with k | k | k
  ·have k1:¬ bit d.Running:=by unfold bit; omega
   simp [k,k1]
  ·have k1:decide (d.Running<0)=false:=by rcases k with k | k <;> rw [k] <;> rfl
   have k2:decide (d.Running>1)=false:=by rcases k with k | k <;> rw [k] <;> rfl
   simp only [k1,k2,cond_false,k,decide_true,Bool.true_and,zGt _ k,bnd_some,zWt k,zGt _ (qE k)]
   have e:(d.Running==d.Active)=decide (d.Running=d.Active):=rfl
   rw [e]
   by_cases hra:d.Running=d.Active
   ·simp only [hra,decide_true,cond_true]
    cases nP (qM d.Slots d.Active) d.Name <;> cases nP (qM d.Slots (1 - d.Active)) d.Name <;> cases d.Trial <;> rfl
   ·simp only [hra,decide_false,cond_false]
    cases nP (qM d.Slots d.Active) d.Name <;> cases nP (qM d.Slots d.Running) d.Name <;> cases d.Trial <;> rfl
  ·have k1:¬ bit d.Running:=by unfold bit; omega
   have k2:decide (d.Running<0)=false:=by simp; omega
   simp [k,k1,k2]
 ·have h1:¬ bit d.Active:=by unfold bit; omega
  have h2:decide (d.Active<0)=false:=by simp; omega
  simp [h,h1,h2]
structure VD (d:zB):Prop where
 ba:bit d.Active
 br:bit d.Running
 ga:nP (qM d.Slots d.Active) d.Name=true
 gr:nP (qM d.Slots d.Running) d.Name=true
 tr:d.Trial=true→d.Running=d.Active∧nP (qM d.Slots (1 - d.Active)) d.Name=true
theorem qF (d:zB):lP d=true↔VD d:=by
 unfold lP
 simp only [Bool.and_eq_true,decide_eq_true_eq,Bool.or_eq_true,Bool.not_eq_true']
 constructor
 ·rintro ⟨h1,h2,h3,h4,h5⟩
  exact ⟨h1,h2,h3,h4,fun ht=>by rcases h5 with h5 | h5 <;> simp_all⟩
 ·rintro ⟨h1,h2,h3,h4,h5⟩
  refine ⟨h1,h2,h3,h4,?_⟩
  cases ht:d.Trial
  ·exact .inl rfl
  ·exact .inr (h5 ht)
def wrE (d:zB):Int:=bif lP d then (bif (d.Running != d.Active) then 46 else bif d.Trial then 46 else 0) else 1
theorem zEg (d:zB):tQ d=some (wrE d):=by
 unfold tQ wrE
 simp only [mZ,bnd_some]
 cases lP d <;> cases (d.Running != d.Active) <;> cases d.Trial <;> rfl
theorem zEr {d:zB} (h:wrE d=0):VD d∧d.Running=d.Active∧d.Trial=false:=by
 unfold wrE at h
 cases hv:lP d
 ·simp [hv] at h
 ·simp only [hv,cond_true] at h
  cases hr:(d.Running != d.Active)
  ·simp only [hr,cond_false] at h
   cases ht:d.Trial
   ·exact ⟨(qF d).1 hv,by simpa using hr,rfl⟩
   ·simp [ht] at h
  ·simp [hr] at h
theorem zNp {d:zB} (h:VD d) (hr:d.Running=d.Active) (ht:d.Trial=false):wrE d=0:=by
 unfold wrE
 rw [(qF d).2 h,hr,ht]
 simp
def small (i:zI):Prop:=i.Data.length≤1000
def nR (d:zB):Prop:=small d.Slots.e0.Image∧small d.Slots.e1.Image
theorem zNg {d:zB} (h:nR d) {k:Int} {y:yF} (hy:small y.Image):small (kP d.Slots k y).e0.Image∧small (kP d.Slots k y).e1.Image:=by
 unfold kP
 split
 ·exact ⟨hy,h.2⟩
 ·exact ⟨h.1,hy⟩
theorem cK {i:zI} (h:small i):pI i=some i:=by
 unfold pI zQ
 unfold small at h
 rw [nC (by simp; omega)]
 rfl
theorem zPL {i:zI} (h:small i):jI i=some i:=by
 unfold jI
 unfold small at h
 rw [nC (by simp; omega)]
 rfl
theorem mU {d:zB} (h:nR d):uU d=some d:=by
 unfold uU
 rw [cK h.1]
 simp only [bnd_some]
 rw [cK h.2]
 rfl
def zIq (d:zB):zB × Int:=bif (wrE d != 0) then (zAo,wrE d) else (⟨d.Name,kP d.Slots (1 - d.Running) kF,d.Active,d.Running,d.Trial⟩,0)
def cS (d:zB) (i:zI) (n:Int):Bool:=wI i&&(decide (i.Name=d.Name)&&(decide (0≤n)&&decide (n≤(i.Data.length:Int))))
def zIo (d:zB) (i:zI) (n:Int):zB × Int:=
 bif (wrE d != 0) then (zAo,wrE d) else bif cS d i n then (⟨d.Name,kP d.Slots (1 - d.Running) ⟨⟨i.Name,i.Version,i.Data.take n.toNat⟩,0⟩,d.Active,d.Running,d.Trial⟩,0) else (zAo,2)
def zEd (d:zB) (s:Int):zB × Int:=
 bif (wrE d != 0) then (zAo,wrE d) else bif nP ⟨(qM d.Slots (1 - d.Running)).Image,s⟩ d.Name then (⟨d.Name,kP d.Slots (1 - d.Running) ⟨(qM d.Slots (1 - d.Running)).Image,s⟩,d.Active,d.Running,d.Trial⟩,0) else (zAo,5)
def zEf (d:zB):zB × Int:=
 bif (wrE d != 0) then (zAo,wrE d) else bif nP (qM d.Slots (1 - d.Running)) d.Name then (⟨d.Name,d.Slots,d.Active,d.Running,true⟩,0) else (zAo,46)
def zCv (d:zB):zB:=bif lP d then (bif d.Trial then ⟨d.Name,d.Slots,d.Active,1 - d.Active,false⟩ else ⟨d.Name,d.Slots,d.Active,d.Active,d.Trial⟩) else zAo
def zCa (d:zB):zB × Int:=bif lP d then (bif d.Trial then (zAo,46) else (⟨d.Name,d.Slots,d.Running,d.Running,d.Trial⟩,0)) else (zAo,1)
def gT (d:zB):zJ:=bif lP d then (qM d.Slots d.Running).Image.Version else ⟨0,0,0⟩
def zBA (i:zI):zB × Int:=bif wI i then (⟨i.Name,⟨⟨i,kH i⟩,kF⟩,0,0,false⟩,0) else (zAo,1)
theorem zLG {i:zI} (h:small i):mO i=some (zBA i):=by
 unfold mO zBA
 simp only [gS,cK h,zBz,bnd_some]
 cases wI i <;> rfl
theorem zTK {i:zI} (h:small i):fS i=some (zBA i):=by
 unfold fS zBA
 simp only [zDj,zPL h,zOk,bnd_some]
 cases wI i <;> rfl
theorem gI {d:zB} (h:bit d.Running):uW d=some (1 - d.Running):=by
 unfold uW
 rw [zWt h,zGt _ (qE h)]
 rfl
theorem zMy {d:zB} (h:nR d):iY d=some (zIq d):=by
 unfold iY zIq
 simp only [zEg,mU h,bnd_some]
 by_cases hw:wrE d=0
 ·obtain ⟨hv,hr,ht⟩:=zEr hw
  have e:(wrE d != 0)=false:=by simp [hw]
  simp only [e,cond_false,gI hv.br,bnd_some,zGt _ (qE hv.br),zWv _ _ (qE hv.br)]
  rfl
 ·have e:(wrE d != 0)=true:=by simp [hw]
  simp only [e,cond_true]
  rfl
theorem zRD {α:Type} {l:List α} {n:Int} (h0:0≤n) (h1:n≤(l.length:Int)):sub l 0 n=some (l.take n.toNat):=by
 simp [sub,h0,h1]
theorem zMT {d:zB} {i:zI} (h:nR d) (hi:small i) (n:Int):gC d i n=some (zIo d i n):=by
 unfold gC zIo
 simp only [zEg,gS,cA,bnd_some]
 by_cases hw:wrE d=0
 ·obtain ⟨hv,hr,ht⟩:=zEr hw
  have e:(wrE d != 0)=false:=by simp [hw]
  simp only [e,cond_false,gt_iff_lt,dlt]
  have eo:(bif !wI i then some true else bif !decide (i.Name=d.Name) then some true else bif !decide (0≤n) then some true else some (!decide (n≤(i.Data.length:Int))):Option Bool)=some (!cS d i n):=by
   unfold cS
   cases wI i <;> cases decide (i.Name=d.Name) <;> cases decide (0≤n) <;> cases decide (n≤(i.Data.length:Int)) <;> rfl
  rw [eo]
  simp only [bnd_some]
  cases ho:cS d i n
  ·rfl
  ·simp only [cS,Bool.and_eq_true,decide_eq_true_eq] at ho
   have hs:small (⟨i.Name,i.Version,i.Data.take n.toNat⟩:zI):=by
    unfold small at*
    simp
    omega
   simp only [Bool.not_true,cond_false,cond_true,mU h,bnd_some,zRD ho.2.2.1 ho.2.2.2,gI hv.br,cK hs,zGt _ (qE hv.br),zWv _ _ (qE hv.br)]
 ·have e:(wrE d != 0)=true:=by simp [hw]
  simp only [e,cond_true]
  rfl
theorem zKh {d:zB} (h:nR d) (s:Int):jG d s=some (zEd d s):=by
 unfold jG zEd
 simp only [zEg,mU h,bnd_some]
 by_cases hw:wrE d=0
 ·obtain ⟨hv,hr,ht⟩:=zEr hw
  have e:(wrE d != 0)=false:=by simp [hw]
  simp only [e,cond_false,gI hv.br,bnd_some,zGt _ (qE hv.br),zWv _ _ (qE hv.br),zFI]
  rw [gI (d:=⟨d.Name,kP d.Slots (1 - d.Running) ⟨(qM d.Slots (1 - d.Running)).Image,s⟩,d.Active,d.Running,d.Trial⟩) hv.br]
  simp only [bnd_some,zGt _ (qE hv.br),zFW]
  cases nP ⟨(qM d.Slots (1 - d.Running)).Image,s⟩ d.Name <;> rfl
 ·have e:(wrE d != 0)=true:=by simp [hw]
  simp only [e,cond_true]
  rfl
theorem zKn {d:zB} (h:nR d):nX d=some (zEf d):=by
 unfold nX zEf
 simp only [zEg,mU h,bnd_some]
 by_cases hw:wrE d=0
 ·obtain ⟨hv,hr,ht⟩:=zEr hw
  have e:(wrE d != 0)=false:=by simp [hw]
  simp only [e,cond_false,gI hv.br,bnd_some,zGt _ (qE hv.br),zFI]
  cases nP (qM d.Slots (1 - d.Running)) d.Name <;> rfl
 ·have e:(wrE d != 0)=true:=by simp [hw]
  simp only [e,cond_true]
  rfl
theorem zGU {d:zB} (h:nR d):mT d=some (zCv d):=by
 unfold mT zCv
 simp only [mZ,mU h,bnd_some]
 cases hv:lP d
 ·rfl
 ·have:=((qF d).1 hv).ba
  simp only [zWt this,Bool.not_true,cond_false,cond_true]
  cases d.Trial <;> rfl
theorem zJm {d:zB} (h:nR d):oW d=some (zCa d):=by
 unfold oW zCa
 simp only [mZ,mU h,bnd_some]
 cases lP d <;> cases d.Trial <;> rfl
theorem zIb (d:zB):lZ d=some (gT d):=by
 unfold lZ gT
 simp only [mZ,bnd_some]
 cases hv:lP d
 ·rfl
 ·simp only [Bool.not_true,cond_false,cond_true,zGt _ ((qF d).1 hv).br,bnd_some]
theorem zGh (i:zI):rE i i=some true:=by
 unfold rE
 simp
theorem zON (d:zB):hZ d d=some true:=by
 unfold hZ
 simp [zGh]
end Go.Proofs.YtplchdlgdjcojaaGreatDoor
end
section
namespace Go.Proofs.YtplchdlgdjcojaaGreatDoor
open Go
set_option linter.unusedSimpArgs false
set_option linter.unusedVariables false
theorem zMX {x:Int}:inK .u8 x↔0≤x∧x≤255:=Iff.rfl
structure vX (c:xW):Prop where
 hl:∀ x∈c.L,inK .u8 x
 h0:0≤c.At
 hn:c.L.length≤140737488355328
 ha:c.At≤(c.L.length:Int)
theorem zOX {a b:Int} (ha:0≤a∧a<65536) (hb:0≤b∧b<65536):0≤iOr .i64 a b∧iOr .i64 a b<65536:=by
 unfold iOr
 have e:(BitVec.ofInt (IntKind.bits .i64) a|||BitVec.ofInt (IntKind.bits .i64) b).toNat=a.toNat|||b.toNat:=by
  show (BitVec.ofInt 64 a|||BitVec.ofInt 64 b).toNat=_
  rw [BitVec.toNat_or,BitVec.toNat_ofInt,BitVec.toNat_ofInt]
  congr 1 <;> omega
 rw [e]
 have h:=Nat.or_lt_two_pow (x:=a.toNat) (y:=b.toNat) (n:=16) (by omega) (by omega)
 rw [yQ (by omega) (by omega)]
 omega
theorem zWW {x:Int} (h:0≤x∧x≤255):kX .i64 x 8=x*256:=by
 unfold kX
 have:(2:Int) ^ (min (Int.toNat 8) (IntKind.bits .i64))=256:=by decide
 rw [this,yQ (by omega) (by omega)]
theorem zNO {v n:Int} (hv:0≤v) (hn:1≤n):∃ x,zKt v n=some x∧0≤x∧x<n:=by
 refine ⟨v % n,?_,Int.emod_nonneg _ (by omega),Int.emod_lt_of_pos _ (by omega)⟩
 unfold zKt
 rw [if_neg (by omega),Int.tmod_eq_emod_of_nonneg hv]
theorem zTS {c:xW} (h:vX c) (n:Int):∃ c' x,yK c n=some (c',x)∧vX c'∧0≤x∧(x=0∨x<n):=by
 unfold yK sN
 simp only [bnd_some]
 obtain ⟨hl,h0,hn,ha⟩:=h
 by_cases hlt:c.At<(c.L.length:Int)
 ·have d1:decide (c.At<(c.L.length:Int))=true:=by simpa using hlt
  simp only [d1,Bool.not_true,cond_false,bnd_some]
  by_cases hn1:n<1
  ·simp only [hn1,decide_true,cond_true]
   exact ⟨c,0,rfl,⟨hl,h0,hn,ha⟩,by omega, .inl rfl⟩
  simp only [hn1,decide_false,cond_false]
  obtain ⟨k,hk⟩:∃ k:Nat,c.At=(k:Int):=⟨c.At.toNat,by omega⟩
  have hkl:k<c.L.length:=by omega
  have hx:=zMX.1 (hl _ (List.getElem_mem hkl))
  rw [hk,yU hkl]
  simp only [bnd_some]
  have hw:IntKind.wrap .i64 ((k:Int)+1)=((k+1:Nat):Int):=zR hkl hn
  have hx':IntKind.wrap .i64 c.L[k]=c.L[k]:=yQ (by omega) (by omega)
  rw [hw,hx']
  have hok1:vX (⟨c.L,((k+1:Nat):Int)⟩:xW):=⟨hl,by show (0:Int)≤((k+1:Nat):Int); omega,hn,by show ((k+1:Nat):Int)≤(c.L.length:Int); omega⟩
  by_cases hbig:n>256∧k+1<c.L.length
  ·have d2:decide (n>256)=true:=by simpa using hbig.1
   have d3:decide (((k+1:Nat):Int)<(c.L.length:Int))=true:=by simp; omega
   have hy:=zMX.1 (hl _ (List.getElem_mem hbig.2))
   have hy':IntKind.wrap .i64 c.L[k+1]=c.L[k+1]:=yQ (by omega) (by omega)
   simp only [d2,d3,cond_true,bnd_some,yU hbig.2,hy',zWW hy]
   have ho:=zOX (a:=c.L[k]) (b:=c.L[k+1]*256) (by omega) (by omega)
   obtain ⟨x,e1,e2,e3⟩:=zNO (n:=n) ho.1 (by omega)
   rw [e1]
   have hw2:IntKind.wrap .i64 (((k+1:Nat):Int)+1)=((k+2:Nat):Int):=zR hbig.2 hn
   exact ⟨_,x,rfl,⟨hl,by show 0≤IntKind.wrap .i64 _; rw [hw2]; omega,hn,by show IntKind.wrap .i64 _≤(c.L.length:Int); rw [hw2]; omega⟩,e2, .inr e3⟩
  ·have d2:(bif decide (n>256) then some (decide (((k+1:Nat):Int)<(c.L.length:Int))) else some false:Option Bool)=some false:=by
    by_cases g:n>256
    ·have:¬ k+1<c.L.length:=fun h=>hbig ⟨g,h⟩
     have d3:decide (((k+1:Nat):Int)<(c.L.length:Int))=false:=by simp; omega
     rw [d3]
     simp [g]
    ·simp [g]
   rw [d2]
   simp only [bnd_some,cond_false]
   obtain ⟨x,e1,e2,e3⟩:=zNO (n:=n) hx.1 (by omega)
   rw [e1]
   exact ⟨_,x,rfl,hok1,e2, .inr e3⟩
 ·have d1:decide (c.At<(c.L.length:Int))=false:=by simpa using hlt
  simp only [d1,Bool.not_false,cond_true,bnd_some]
  exact ⟨c,0,rfl,⟨hl,h0,hn,ha⟩,by omega, .inl rfl⟩
theorem zOU {l:List Int} (h:okL (inK .u8) l) {most:Int} (h0:0≤most) (h1:most≤100000):∃ c,fL l most=some c∧vX c:=by
 unfold fL
 have hs:sub l 0 (min (l.length:Int) most)=some (l.take (min (l.length:Int) most).toNat):=by
  unfold sub
  rw [if_pos ⟨by omega,by omega,by omega⟩]
  simp
 rw [hs]
 refine ⟨_,rfl,fun x hx=>h.1 x (List.mem_of_mem_take hx),by simp,?_,by simp⟩
 simp only [List.length_take]
 omega
end Go.Proofs.YtplchdlgdjcojaaGreatDoor
end
section
namespace Go.Proofs.YtplchdlgdjcojaaGreatDoor
open Go
set_option linter.unusedSimpArgs false
set_option linter.unusedVariables false
structure Inv (d:zB) (n:ByteArray):Prop where
 vd:VD d
 nm:d.Name=n
 sm:nR d
theorem zJq {d:zB} {n:ByteArray} (h:Inv d n) (hr:d.Running=d.Active) (ht:d.Trial=false) {y:yF} (hy:small y.Image):
  Inv ⟨d.Name,kP d.Slots (1 - d.Running) y,d.Active,d.Running,d.Trial⟩ n:=by
 obtain ⟨⟨ba,br,ga,gr,tr⟩,nm,sm⟩:=h
 have hne:d.Running≠1 - d.Running:=by rcases br with h | h <;> rw [h] <;> decide
 have e:qM (kP d.Slots (1 - d.Running) y) d.Running=qM d.Slots d.Running:=zLo (qE br) br hne
 refine ⟨⟨ba,br,?_,?_,fun h=>?_⟩,nm,zNg sm hy⟩
 ·simp only; rw [←hr,e]; exact gr
 ·simp only; rw [e]; exact gr
 ·rw [ht] at h; cases h
theorem zFl:small zSe:=by unfold small zSe; simp
theorem zTk {i:zI} (h:wI i=true):Inv (zBA i).1 i.Name∧(zBA i).2=0∧(zBA i).1=⟨i.Name,⟨⟨i,kH i⟩,kF⟩,0,0,false⟩:=by
 unfold zBA
 rw [h]
 have hs:=rT h
 have hg:nP ⟨i,kH i⟩ i.Name=true:=by simp [nP,zCH,h]
 refine ⟨⟨⟨.inl rfl, .inl rfl,hg,hg,fun h=>by cases h⟩,rfl,?_,zFl⟩,rfl,rfl⟩
 show i.Data.length≤1000
 omega
theorem zQo {v:zJ} (h1:0≤v.Major) (h2:v.Major≤999) (h3:0≤v.Minor) (h4:v.Minor≤999) (h5:0≤v.Patch) (h6:v.Patch≤999):iI v=true:=by
 simp [iI,zLJ, *]
theorem zSH {i:zI} (h1:sI i.Name=true) (h2:iI i.Version=true) (h3:1≤i.Data.length) (h4:i.Data.length≤512):wI i=true:=by
 simp [wI, *]
end Go.Proofs.YtplchdlgdjcojaaGreatDoor
end
section
namespace Go.Proofs.YtplchdlgdjcojaaGreatDoor
open Go
set_option linter.unusedSimpArgs false
set_option linter.unusedVariables false
theorem zBF:∀ (x y:List UInt8),(Op.bytesLess x y||(x==y))=!Op.bytesLess y x
 | [], []=>rfl
 | [],_::_=>rfl
 | _::_, []=>rfl
 | a::x,b::y=>by
  have ih:=zBF x y
  simp only [Op.bytesLess,List.cons_beq_cons]
  by_cases h:a=b
  ·subst h
   have:¬ a<a:=UInt8.lt_irrefl a
   simp [this]
   simpa using ih
  ·have h1:(a==b)=false:=by simpa using h
   have h2:(b==a)=false:=by simpa using fun e=>h e.symm
   rw [h1,h2]
   simp only [Bool.false_and,Bool.or_false]
   by_cases hl:a<b
   ·have:¬ b<a:=UInt8.lt_asymm hl
    simp [hl,this]
   ·have:b<a:=by
     rcases UInt8.lt_or_lt_of_ne h with g | g
     ·exact absurd g hl
     ·exact g
    simp [hl,this]
def zOL (x:Nat):Bool:=decide (97≤x)&&decide (x≤122)
def zHN (x:Nat):Bool:=(decide (48≤x)&&decide (x≤57))||x==45
def lI (s:ByteArray):Bool:=decide (1≤(bs s).length)&&decide ((bs s).length≤16)&&(List.range (bs s).length).all fun i=>match (bs s)[i]? with | some x=>zOL x||(i != 0&&zHN x) | none=>true
def zBY (v:zJ):Bool:=decide (0≤v.Major)&&decide (v.Major≤999)&&(decide (0≤v.Minor)&&decide (v.Minor≤999))&&(decide (0≤v.Patch)&&decide (v.Patch≤999))
theorem aV {α:Type} (l:List α) (p:α→Bool):(l.any fun x=>!p x)=!l.all p:=by
 induction l with
 | nil=>rfl
 | cons x r ih=>simp [ih,Bool.not_and]
theorem zIX (s:ByteArray):uF s=some (lI s):=by
 unfold uF
 have hl:(bs s).length=s.size:=bs_len s
 by_cases h:(s.size<1)∨(16<s.size)
 ·have e1:(bif decide ((s.size:Int)<1) then some true else some (decide ((s.size:Int)>16)):Option Bool)=some true:=by
   by_cases h1:s.size<1
   ·have:decide ((s.size:Int)<1)=true:=by simp; omega
    rw [this]; rfl
   ·have:decide ((s.size:Int)<1)=false:=by simp; omega
    rw [this]; simp; omega
  rw [e1]
  have:lI s=false:=by
   unfold lI
   rw [hl]
   rcases h with h | h
   ·have:decide (1≤s.size)=false:=decide_eq_false (by omega)
    rw [this]; rfl
   ·have:decide (s.size≤16)=false:=decide_eq_false (by omega)
    rw [this]; simp
  rw [this]
  rfl
 ·have h1:decide ((s.size:Int)<1)=false:=by simp; omega
  have h2:decide ((s.size:Int)>16)=false:=by simp; omega
  simp only [h1,h2,cond_false,bnd_some]
  refine oZ (fun (i:Nat)=>(i:Int)) s.size (fun i=>match (bs s)[i]? with | some x=>!(zOL x||(i != 0&&zHN x)) | none=>false) (.inl false) (.inr ()) rfl (fun i hi=>?_) ?_ ?_
  ·have hib:i<(bs s).length:=by omega
   have d0:decide ((i:Int)<(s.size:Int))=true:=by simp; omega
   simp only [d0,cond_true,zTt hi,bnd_some,zR hi (by omega)]
   rw [List.getElem?_eq_getElem hib]
   generalize (bs s)[i]=x
   have a1:decide ((x:Int)≥97)=decide (97≤x):=by congr 1; simp; omega
   have a2:decide ((x:Int)≤122)=decide (x≤122):=by congr 1; simp; omega
   have a3:decide ((x:Int)≥48)=decide (48≤x):=by congr 1; simp; omega
   have a4:decide ((x:Int)≤57)=decide (x≤57):=by congr 1; simp; omega
   have a5:((x:Int)==45)=(x==45):=by
    rw [Bool.eq_iff_iff,beq_iff_eq,beq_iff_eq]
    omega
   have a6:((i:Int)==0)=(i==0):=by rw [Bool.eq_iff_iff]; simp
   rw [a1,a2,a3,a4,a5,a6]
   simp only [zOL,zHN,bne]
   cases decide (97≤x) <;> cases decide (x≤122) <;> cases decide (48≤x) <;> cases decide (x≤57) <;> cases x==45 <;> cases i==0 <;> rfl
  ·have d0:decide ((s.size:Int)<(s.size:Int))=false:=by simp
   simp only [d0,cond_false]
  ·have e2:(List.range s.size).any (fun i=>match (bs s)[i]? with | some x=>!(zOL x||(i != 0&&zHN x)) | none=>false)=!((List.range (bs s).length).all fun i=>match (bs s)[i]? with | some x=>zOL x||(i != 0&&zHN x) | none=>true):=by
    rw [←aV,hl]
    congr 1
    funext i
    cases (bs s)[i]? <;> rfl
   rw [e2]
   unfold lI
   have b1:decide (1≤(bs s).length)=true:=by rw [hl]; simp; omega
   have b2:decide ((bs s).length≤16)=true:=by rw [hl]; simp; omega
   rw [b1,b2]
   cases (List.range (bs s).length).all fun i=>match (bs s)[i]? with | some x=>zOL x||(i != 0&&zHN x) | none=>true <;> rfl
theorem zRK (v:zJ):vJ v=some (zBY v):=by
 unfold vJ vA zBY
 simp only [bnd_some]
 have h1:∀ x:Int,decide (x<0)=!decide (0≤x):=fun x=>by rw [←decide_not]; congr 1; simp
 have h2:∀ x:Int,decide (x>999)=!decide (x≤999):=fun x=>by rw [←decide_not]; congr 1; simp
 simp only [h1,h2]
 cases decide (0≤v.Major) <;> cases decide (v.Major≤999) <;> cases decide (0≤v.Minor) <;> cases decide (v.Minor≤999) <;> cases decide (0≤v.Patch) <;> cases decide (v.Patch≤999) <;> rfl
def blt (a b:ByteArray):Bool:=Op.bytesLess a.data.toList b.data.toList
theorem zSv (a b:ByteArray):Op.bytesLess a.toList b.toList=blt a b:=by rw [ByteArray.toList_eq,ByteArray.toList_eq]; rfl
def cOk (l:List zM) (i:Nat):Bool:=match l[i]? with
 | some x=>lI x.Name&&zBY x.Version&&(i==0||match l[i - 1]? with | some y=>blt y.Name x.Name | none=>true)
 | none=>true
def tH (l:List zM):Bool:=decide (l.length≤8)&&(List.range l.length).all (cOk l)
theorem zRf (l:List zM):vP l=some (tH l):=by
 unfold vP tH
 by_cases h:8<l.length
 ·have d1:decide ((l.length:Int)>8)=true:=by simp; omega
  have d2:decide (l.length≤8)=false:=by simp; omega
  rw [d1,d2]; rfl
 ·have d1:decide ((l.length:Int)>8)=false:=by simp; omega
  have d2:decide (l.length≤8)=true:=by simp; omega
  rw [d1,d2]
  simp only [cond_false,Bool.true_and]
  refine oZ (fun (i:Nat)=>(i:Int)) l.length (fun i=>!cOk l i) (.inl false) (.inr ()) rfl (fun i hi=>?_) ?_ ?_
  ·have d0:decide ((i:Int)<(l.length:Int))=true:=by simp; omega
   simp only [d0,cond_true,yU hi,bnd_some,zIX,zRK,zR hi (by omega),cOk,List.getElem?_eq_getElem hi]
   by_cases h0:i=0
   ·subst h0
    have e:decide (((0:Nat):Int)>0)=false:=by simp
    rw [e]
    cases lI l[0].Name <;> cases zBY l[0].Version <;> rfl
   ·have e:decide ((i:Int)>0)=true:=by simp; omega
    have e2:(i==0)=false:=by simp [h0]
    have hp:i - 1<l.length:=by omega
    rw [e,e2,zAA (n:=l.length) (by omega) hi (by omega),yU hp,List.getElem?_eq_getElem hp]
    simp only [bnd_some,zBF,Bool.false_or,cond_true]
    simp only [zSv]
    cases lI l[i].Name <;> cases zBY l[i].Version <;> cases blt l[i - 1].Name l[i].Name <;> rfl
  ·have d0:decide ((l.length:Int)<(l.length:Int))=false:=by simp
   simp only [d0,cond_false]
  ·rw [aV]
   cases (List.range l.length).all (cOk l) <;> rfl
def nOk (x:zX):Bool:=lI x.Component&&lI x.On&&!decide (bs x.Component=bs x.On)&&zBY x.From&&zBY x.At
def jN (l:List zX):Bool:=decide (l.length≤16)&&l.all nOk
theorem zRv (l:List zX):sZ l=some (jN l):=by
 unfold sZ jN
 by_cases h:16<l.length
 ·have d1:decide ((l.length:Int)>16)=true:=by simp; omega
  have d2:decide (l.length≤16)=false:=by simp; omega
  rw [d1,d2]; rfl
 ·have d1:decide ((l.length:Int)>16)=false:=by simp; omega
  have d2:decide (l.length≤16)=true:=by simp; omega
  rw [d1,d2]
  simp only [cond_false,Bool.true_and]
  refine oZ (fun (i:Nat)=>(i:Int)) l.length (fun i=>match l[i]? with | some x=>!nOk x | none=>false) (.inl false) (.inr ()) rfl (fun i hi=>?_) ?_ ?_
  ·have d0:decide ((i:Int)<(l.length:Int))=true:=by simp; omega
   simp only [d0,cond_true,yU hi,bnd_some,zIX,zRK,zR hi (by omega),List.getElem?_eq_getElem hi,zBX,nOk]
   generalize l[i]=x
   cases lI x.Component <;> cases lI x.On <;> cases decide (bs x.Component=bs x.On) <;> cases zBY x.From <;> cases zBY x.At <;> rfl
  ·have d0:decide ((l.length:Int)<(l.length:Int))=false:=by simp
   simp only [d0,cond_false]
  ·rw [zHI l (fun x=>!nOk x) _ (fun i hi=>by rw [List.getElem?_eq_getElem hi]),aV]
   cases l.all nOk <;> rfl
def cG (l:List zM) (name:ByteArray):Option zJ:=(l.find? fun x=>decide (bs x.Name=bs name)).map (·.Version)
def vlt (a b:zJ):Bool:=decide (a.Major<b.Major)||(decide (a.Major=b.Major)&&(decide (a.Minor<b.Minor)||(decide (a.Minor=b.Minor)&&decide (a.Patch<b.Patch))))
def eR (l:List zM) (n:zX):Bool:=match cG l n.Component with
 | none=>true
 | some v=>vlt v n.From||match cG l n.On with | none=>false | some u=>!vlt u n.At
theorem zFe {l:List zM} (hl:l.length≤1000) (name:ByteArray):qG l name=some (match cG l name with | some v=>(v,true) | none=>(⟨0,0,0⟩,false)):=by
 unfold qG
 refine nW (fun (i:Nat)=>(i:Int)) l.length (fun i=>match l[i]? with | some x=>if decide (bs x.Name=bs name)=true then some (.inl (x.Version,true)) else none | none=>none) (.inr ()) rfl (fun i hi=>?_) ?_ ?_
 ·have d0:decide ((i:Int)<(l.length:Int))=true:=by simp; omega
  simp only [d0,cond_true,yU hi,bnd_some,zR hi (by omega),List.getElem?_eq_getElem hi,zBX]
  cases decide (bs l[i].Name=bs name) <;> rfl
 ·have d0:decide ((l.length:Int)<(l.length:Int))=false:=by simp
  simp only [d0,cond_false]
 ·rcases zBl l (fun x=>decide (bs x.Name=bs name)) (fun _ x=>(.inl (x.Version,true):(zJ × Bool) ⊕ Unit)) (fun i=>match l[i]? with | some x=>if decide (bs x.Name=bs name)=true then some (.inl (x.Version,true)) else none | none=>none) (fun i hi=>by rw [List.getElem?_eq_getElem hi]) with ⟨i,hi,h1,h2,h3⟩ | ⟨h1,h2,h3⟩
  ·rw [h3]
   simp only [cG,h2]
   rfl
  ·rw [h3]
   simp only [cG,h1]
   rfl
theorem zVl (x y:Int):tI x y=some (if x<y then -1 else if y<x then 1 else 0):=by
 unfold tI pJ
 simp only [bnd_some,bne_self_eq_false,cond_false]
 by_cases h1:x<y
 ·simp [h1]
 ·by_cases h2:y<x
  ·simp [h1,h2]
  ·simp [h1,h2]
theorem zFU (a b:zJ):∃ r,rB a b=some r∧decide (r<0)=vlt a b:=by
 unfold rB vA pZ vlt
 simp only [bnd_some,zVl]
 by_cases h1:a.Major<b.Major
 ·exact ⟨-1,by simp [h1],by simp [h1]⟩
 ·by_cases h2:b.Major<a.Major
  ·have:¬ a.Major=b.Major:=by omega
   exact ⟨1,by simp [h1,h2],by simp [h1,this]⟩
  ·have e:a.Major=b.Major:=by omega
   by_cases h3:a.Minor<b.Minor
   ·exact ⟨-1,by simp [h1,h2,h3],by simp [e,h3]⟩
   ·by_cases h4:b.Minor<a.Minor
    ·have:¬ a.Minor=b.Minor:=by omega
     exact ⟨1,by simp [h1,h2,h3,h4],by simp [e,h3,this]⟩
    ·have e2:a.Minor=b.Minor:=by omega
     by_cases h5:a.Patch<b.Patch
     ·exact ⟨-1,by simp [h1,h2,h3,h4,h5],by simp [e,e2,h5]⟩
     ·by_cases h6:b.Patch<a.Patch
      ·exact ⟨1,by simp [h1,h2,h3,h4,h5,h6],by simp [e,e2,h5]⟩
      ·exact ⟨0,by simp [h1,h2,h3,h4,h5,h6],by simp [e,e2,h5]⟩
theorem zQc {l:List zM} (hl:l.length≤1000) (n:zX):pR l n=some (eR l n):=by
 unfold pR eR
 rw [zFe hl,zFe hl]
 cases h1:cG l n.Component with
 | none=>rfl
 | some v=>
  obtain ⟨r,e1,e2⟩:=zFU v n.From
  simp only [bnd_some,Bool.not_true,cond_false,e1,e2]
  cases h2:vlt v n.From
  ·simp only [cond_false,Bool.false_or]
   cases h3:cG l n.On with
   | none=>rfl
   | some u=>
    obtain ⟨r',e3,e4⟩:=zFU u n.At
    simp only [bnd_some,cond_true,e3]
    have:decide (r'≥0)=!vlt u n.At:=by rw [←e4,←decide_not]; congr 1; simp
    rw [this]
  ·rfl
def zIn (l:List zM) (needs:List zX) (r:Int × Int):Prop:=
 if tH l=false then r=(0,1) else if jN needs=false then r=(0,2) else r.2=0∧decide (r.1<0)=needs.all (eR l)
theorem gF (l:List zM) (needs:List zX):∃ r,xS l needs=some r∧zIn l needs r:=by
 unfold xS zIn
 rw [zRf,zRv]
 cases h1:tH l
 ·exact ⟨(0,1),rfl,by simp⟩
 simp only [bnd_some,Bool.not_true,cond_false,Bool.true_eq_false,if_false]
 cases h2:jN needs
 ·exact ⟨(0,2),rfl,by simp⟩
 simp only [bnd_some,Bool.not_true,cond_false,Bool.true_eq_false,if_false]
 have hl:l.length≤8:=by
  unfold tH at h1
  have:=(Bool.and_eq_true_iff.1 h1).1
  simpa using this
 have hn:needs.length≤16:=by
  unfold jN at h2
  have:=(Bool.and_eq_true_iff.1 h2).1
  simpa using this
 rcases zBl needs (fun x=>!eR l x) (fun i _=>(.inl ((i:Int),0):(Int × Int) ⊕ Unit)) (fun i=>match needs[i]? with | some x=>if (!eR l x)=true then some (.inl ((i:Int),0)) else none | none=>none) (fun i hi=>by rw [List.getElem?_eq_getElem hi]) with ⟨i,hi,g1,g2,g3⟩ | ⟨g1,g2,g3⟩
 ·refine ⟨((i:Int),0),?_,rfl,?_⟩
  ·refine nW (fun (i:Nat)=>(i:Int)) needs.length (fun i=>match needs[i]? with | some x=>if (!eR l x)=true then some (.inl ((i:Int),0)) else none | none=>none) (.inr ()) rfl (fun i hi=>?_) ?_ ?_
   ·have d0:decide ((i:Int)<(needs.length:Int))=true:=by simp; omega
    simp only [d0,cond_true,yU hi,bnd_some,zR hi (by omega),List.getElem?_eq_getElem hi,zQc (l:=l) (by omega)]
    cases eR l needs[i] <;> rfl
   ·have d0:decide ((needs.length:Int)<(needs.length:Int))=false:=by simp
    simp only [d0,cond_false]
   ·rw [g3]; rfl
  ·have:needs.all (eR l)=false:=by
    cases hc:needs.all (eR l)
    ·rfl
    ·have:=List.all_eq_true.1 hc _ (List.getElem_mem hi)
     rw [this] at g1; cases g1
   rw [this]
   simp
 ·refine ⟨(-1,0),?_,rfl,?_⟩
  ·refine nW (fun (i:Nat)=>(i:Int)) needs.length (fun i=>match needs[i]? with | some x=>if (!eR l x)=true then some (.inl ((i:Int),0)) else none | none=>none) (.inr ()) rfl (fun i hi=>?_) ?_ ?_
   ·have d0:decide ((i:Int)<(needs.length:Int))=true:=by simp; omega
    simp only [d0,cond_true,yU hi,bnd_some,zR hi (by omega),List.getElem?_eq_getElem hi,zQc (l:=l) (by omega)]
    cases eR l needs[i] <;> rfl
   ·have d0:decide ((needs.length:Int)<(needs.length:Int))=false:=by simp
    simp only [d0,cond_false]
   ·rw [g3]; rfl
  ·have:needs.all (eR l)=true:=List.all_eq_true.2 fun x hx=>by simpa using g2 x hx
   rw [this]
   rfl
def wS (l:List zM):List (List Nat):=l.map fun x=>bs x.Name
def sK (p:xA):Nat:=
 if (tH p.Now&&tH p.Next)=false then 1 else if jN p.Needs=false then 2 else if wS p.Now≠wS p.Next then 8 else
  if (p.Needs.all (eR p.Now)&&p.Needs.all (eR p.Next))=false then 42 else 0
theorem zJu:tH []=true:=rfl
theorem zLr:jN []=true:=rfl
theorem zDA {l:List zM} (h:tH l=true):l.length≤8:=by
 unfold tH at h
 have:=(Bool.and_eq_true_iff.1 h).1
 simpa using this
theorem zLj {a b:List zM} (ha:a.length≤1000):zW a b=some (decide (wS a=wS b)):=by
 unfold zW
 by_cases hl:a.length=b.length
 ·have d1:((a.length:Int) != (b.length:Int))=false:=by simp [hl]
  rw [d1]
  simp only [cond_false]
  refine oZ (fun (i:Nat)=>(i:Int)) a.length (fun i=>match a[i]?,b[i]? with | some x,some y=>!decide (bs x.Name=bs y.Name) | _,_=>false) (.inl false) (.inr ()) rfl (fun i hi=>?_) ?_ ?_
  ·have d0:decide ((i:Int)<(a.length:Int))=true:=by simp; omega
   have hb:i<b.length:=by omega
   simp only [d0,cond_true,yU hi,yU hb,bnd_some,zR hi (by omega),List.getElem?_eq_getElem hi,List.getElem?_eq_getElem hb,rL,zBX]
   cases decide (bs a[i].Name=bs b[i].Name) <;> rfl
  ·have d0:decide ((a.length:Int)<(a.length:Int))=false:=by simp
   simp only [d0,cond_false]
  ·have:(List.range a.length).any (fun i=>match a[i]?,b[i]? with | some x,some y=>!decide (bs x.Name=bs y.Name) | _,_=>false)=!decide (wS a=wS b):=by
    rw [Bool.eq_iff_iff]
    simp only [List.any_eq_true,List.mem_range,Bool.not_eq_true',decide_eq_false_iff_not]
    constructor
    ·rintro ⟨i,hi,h⟩ he
     have hb:i<b.length:=by omega
     rw [List.getElem?_eq_getElem hi,List.getElem?_eq_getElem hb] at h
     simp only [Bool.not_eq_true',decide_eq_false_iff_not] at h
     apply h
     have:(wS a)[i]? =(wS b)[i]?:=by rw [he]
     simpa [wS,hi,hb] using this
    ·intro h
     refine Classical.byContradiction fun hn=>h ?_
     apply List.ext_getElem?
     intro i
     by_cases hi:i<a.length
     ·have hb:i<b.length:=by omega
      refine Classical.byContradiction fun hne=>hn ⟨i,hi,?_⟩
      rw [List.getElem?_eq_getElem hi,List.getElem?_eq_getElem hb]
      simp only [Bool.not_eq_true',decide_eq_false_iff_not]
      intro e
      apply hne
      simp [wS,hi,hb,e]
     ·rw [List.getElem?_eq_none (by simp [wS]; omega),List.getElem?_eq_none (by simp [wS]; omega)]
   rw [this]
   cases decide (wS a=wS b) <;> rfl
 ·have d1:((a.length:Int) != (b.length:Int))=true:=by
   rw [bne_iff_ne]; omega
  rw [d1]
  have:decide (wS a=wS b)=false:=by
   simp only [decide_eq_false_iff_not]
   intro h
   have:=congrArg List.length h
   simp [wS] at this
   exact hl this
  rw [this]
  rfl
theorem zKI (p:xA):sL p=some (sK p:Int):=by
 unfold sL sK
 obtain ⟨r1,a1,b1⟩:=gF p.Now []
 obtain ⟨r2,a2,b2⟩:=gF p.Next []
 obtain ⟨r3,a3,b3⟩:=gF [] p.Needs
 obtain ⟨r5,a5,b5⟩:=gF p.Now p.Needs
 obtain ⟨r6,a6,b6⟩:=gF p.Next p.Needs
 simp only [a1,a2,a3,a5,a6,bnd_some]
 unfold zIn at b1 b2 b3 b5 b6
 rw [zLr] at b1 b2
 rw [zJu] at b3
 cases h1:tH p.Now
 ·rw [if_pos h1] at b1
  subst b1
  rfl
 rw [if_neg (by rw [h1]; simp)] at b1
 simp only [Bool.true_eq_false,if_false] at b1
 have c1:(r1.2 != 0)=false:=by rw [b1.1]; rfl
 rw [c1]
 cases h2:tH p.Next
 ·rw [if_pos h2] at b2
  subst b2
  rfl
 rw [if_neg (by rw [h2]; simp)] at b2
 simp only [Bool.true_eq_false,if_false] at b2
 have c2:(r2.2 != 0)=false:=by rw [b2.1]; rfl
 rw [c2]
 simp only [cond_false,bnd_some,Bool.and_self,Bool.true_eq_false,if_false] at b3 ⊢
 cases h3:jN p.Needs
 ·rw [if_pos h3] at b3
  subst b3
  rfl
 rw [if_neg (by rw [h3]; simp)] at b3
 have c3:(r3.2 != 0)=false:=by rw [b3.1]; rfl
 rw [c3]
 simp only [cond_false,Bool.true_eq_false,if_false]
 rw [zLj (by have:=zDA h1; omega)]
 by_cases h4:wS p.Now=wS p.Next
 ·simp only [h4,decide_true,bnd_some,Bool.not_true,cond_false,ne_eq,not_true_eq_false,if_false]
  rw [if_neg (by rw [h1]; simp),if_neg (by rw [h3]; simp)] at b5
  rw [if_neg (by rw [h2]; simp),if_neg (by rw [h3]; simp)] at b6
  have e5:decide (r5.1≥0)=!p.Needs.all (eR p.Now):=by rw [←b5.2,←decide_not]; congr 1; simp
  have e6:decide (r6.1≥0)=!p.Needs.all (eR p.Next):=by rw [←b6.2,←decide_not]; congr 1; simp
  rw [e5,e6]
  cases p.Needs.all (eR p.Now) <;> cases p.Needs.all (eR p.Next) <;> rfl
 ·simp only [h4,decide_false,bnd_some,Bool.not_false,cond_true,ne_eq,not_false_eq_true,if_true]
  rfl
structure iA (p:xA):Prop where
 now:tH p.Now=true
 next:tH p.Next=true
 needs:jN p.Needs=true
 names:wS p.Now=wS p.Next
 met0:p.Needs.all (eR p.Now)=true
 met1:p.Needs.all (eR p.Next)=true
theorem zMQ {p:xA}:sK p=0↔iA p:=by
 unfold sK
 constructor
 ·intro h
  split at h
  ·cases h
  ·rename_i h1
   split at h
   ·cases h
   ·rename_i h2
    split at h
    ·cases h
    ·rename_i h3
     split at h
     ·cases h
     ·rename_i h4
      simp only [Bool.and_eq_false_iff,not_or,Bool.not_eq_false] at h1 h4
      exact ⟨h1.1,h1.2,by simpa using h2,Classical.not_not.1 h3,h4.1,h4.2⟩
 ·intro h
  rw [if_neg (by rw [h.now,h.next]; simp),if_neg (by rw [h.needs]; simp),if_neg (by simp [h.names]),if_neg (by rw [h.met0,h.met1]; simp)]
theorem iA.len {p:xA} (h:iA p):p.Next.length=p.Now.length:=by
 have:=congrArg List.length h.names
 simpa [wS] using this.symm
theorem iA.le8 {p:xA} (h:iA p):p.Now.length≤8:=zDA h.now
end Go.Proofs.YtplchdlgdjcojaaGreatDoor
end
section
namespace Go.Proofs.YtplchdlgdjcojaaGreatDoor
open Go
set_option linter.unusedSimpArgs false
set_option linter.unusedVariables false
def zBS (n:Nat) (f:Nat→Bool):Nat:=(List.range n).foldl (fun s i=>if f i=true then s|||2 ^ i else s) 0
theorem zAr (n:Nat) (f:Nat→Bool):zBS (n+1) f=if f n=true then zBS n f|||2 ^ n else zBS n f:=by
 simp [zBS,List.range_succ]
theorem zIi (n:Nat) (f:Nat→Bool):zBS n f<2 ^ n:=by
 induction n with
 | zero=>simp [zBS]
 | succ n ih=>
  rw [zAr]
  have h1:zBS n f<2 ^ (n+1):=Nat.lt_trans ih (Nat.pow_lt_pow_right (by omega) (by omega))
  have h2:2 ^ n<2 ^ (n+1):=Nat.pow_lt_pow_right (by omega) (by omega)
  split
  ·exact Nat.or_lt_two_pow h1 h2
  ·exact h1
theorem zJO (n:Nat) (f:Nat→Bool) (i:Nat):(zBS n f).testBit i=(decide (i<n)&&f i):=by
 induction n with
 | zero=>simp [zBS]
 | succ n ih=>
  rw [zAr]
  by_cases hi:i=n
  ·subst hi
   cases h:f i
   ·simp [ih]
   ·simp [Nat.testBit_or,ih]
  ·have e:decide (i<n+1)=decide (i<n):=by
    congr 1
    simp only [eq_iff_iff]
    omega
   split
   ·rw [Nat.testBit_or,ih,Nat.testBit_two_pow_of_ne (fun h=>hi h.symm),e]
    simp
   ·rw [ih,e]
theorem zIh (a i:Nat):(a / 2 ^ i)&&&1=if a.testBit i=true then 1 else 0:=by
 rw [Nat.and_one_is_mod,Nat.testBit_eq_decide_div_mod_eq]
 by_cases h:a / 2 ^ i % 2=1
 ·simp [h]
 ·simp [h]; omega
theorem zOc (a i:Nat):(((((a / 2 ^ i)&&&1:Nat)):Int)==1)=a.testBit i:=by
 rw [zIh]
 cases a.testBit i <;> rfl
theorem zSQ (a i:Nat):(((((a / 2 ^ i)&&&1:Nat)):Int)==0)=!a.testBit i:=by
 rw [zIh]
 cases a.testBit i <;> rfl
theorem zTo (a i:Nat):((((a|||2 ^ i:Nat)):Int)==(a:Int))=a.testBit i:=by
 cases h:a.testBit i
 ·rw [beq_eq_false_iff_ne]
  intro e
  have:a|||2 ^ i=a:=by exact_mod_cast e
  have h2:(a|||2 ^ i).testBit i=true:=by simp [Nat.testBit_or]
  rw [this,h] at h2
  cases h2
 ·rw [beq_iff_eq]
  congr 1
  apply Nat.eq_of_testBit_eq
  intro j
  rw [Nat.testBit_or]
  by_cases hj:i=j
  ·subst hj; simp [h]
  ·simp [Nat.testBit_two_pow_of_ne hj]
def cE (S F:Nat):Prop:=∀ i,S.testBit i=true→F.testBit i=true
theorem cE.le {S F:Nat} (h:cE S F):S≤F:=by
 have:S|||F=F:=by
  apply Nat.eq_of_testBit_eq
  intro i
  rw [Nat.testBit_or]
  cases hs:S.testBit i
  ·simp
  ·simp [h i hs]
 rw [←this]
 exact Nat.left_le_or
theorem cE.zero (F:Nat):cE 0 F:=fun i h=>by simp at h
theorem cE.refl (F:Nat):cE F F:=fun i h=>h
theorem cE.or {S F i:Nat} (h:cE S F) (hi:F.testBit i=true):cE (S|||2 ^ i) F:=fun j hj=>by
 rw [Nat.testBit_or] at hj
 by_cases hji:i=j
 ·subst hji; exact hi
 ·rw [Nat.testBit_two_pow_of_ne hji] at hj
  exact h j (by simpa using hj)
theorem zIS (S i j:Nat):(S|||2 ^ i).testBit j=(S.testBit j||decide (i=j)):=by
 rw [Nat.testBit_or]
 by_cases h:i=j
 ·subst h; simp
 ·simp [Nat.testBit_two_pow_of_ne h,h]
theorem zNR {S i:Nat} (h:S.testBit i=false):S<S|||2 ^ i:=by
 rcases Nat.lt_or_ge S (S|||2 ^ i) with g | g
 ·exact g
 ·have e:S|||2 ^ i=S:=Nat.le_antisymm g Nat.left_le_or
  have:=zIS S i i
  rw [e,h] at this
  simp at this
def cX (p:xA) (i:Nat):Bool:=match p.Now[i]?,p.Next[i]? with
 | some x1,some x2=>!((x1.Version.Major==x2.Version.Major)&&((x1.Version.Minor==x2.Version.Minor)&&((x1.Version.Patch==x2.Version.Patch)&&true)))
 | _,_=>false
def yT (p:xA):Nat:=zBS p.Now.length (cX p)
theorem zWb {i:Nat} (h:i<8):2 ^ i<256:=Nat.pow_lt_pow_right (a:=2) (n:=8) (by omega) h
theorem zWT {i:Nat} (h:i<8):zCl .i64 1 (i:Int)=some ((2 ^ i:Nat):Int):=by
 have:=zQT (a:=1) (s:=i) (by omega) (by rw [Nat.one_mul]; have:=zWb h; omega)
 rw [Nat.one_mul] at this
 exact this
theorem zWR {a i:Nat} (h:i≤64):zEN .i64 (a:Int) (i:Int)=some ((a / 2 ^ i:Nat):Int):=zRB h
theorem or1 {a i:Nat} (ha:a<256) (h:i<8):iOr .i64 (a:Int) ((2 ^ i:Nat):Int)=((a|||2 ^ i:Nat):Int):=zBD (a:=a) (b:=2 ^ i) (by omega) (by have:=zWb h; omega)
theorem zVh {a:Nat} (h:a<4611686018427387904):rO .i64 (a:Int) 1=((a&&&1:Nat):Int):=zPZ (b:=1) h (by omega)
theorem zWS {a i:Nat} (ha:a<256) (h:i<8):a|||2 ^ i<256:=Nat.or_lt_two_pow (n:=8) ha (zWb h)
theorem zAu {n:Nat} {f:Nat→Bool} (h:n≤8):zBS n f<256:=Nat.lt_of_lt_of_le (zIi n f) (Nat.pow_le_pow_right (by omega) h)
theorem zRg {p:xA} (h:p.Now.length≤8) (hl:p.Next.length=p.Now.length):qP p=some (yT p:Int):=by
 unfold qP yT
 refine xY (fun (i:Nat)=>(((zBS i (cX p):Nat):Int),(i:Int))) p.Now.length _ rfl (fun i hi=>?_) ?_ rfl
 ·have d0:decide ((i:Int)<(p.Now.length:Int))=true:=by simp; omega
  have hb:i<p.Next.length:=by omega
  simp only [d0,cond_true,yU hi,yU hb,bnd_some,zR hi (by omega),zWT (i:=i) (by omega),or1 (a:=zBS i (cX p)) (zAu (by omega)) (i:=i) (by omega)]
  rw [zAr]
  have e:cX p i=!((p.Now[i].Version.Major==p.Next[i].Version.Major)&&((p.Now[i].Version.Minor==p.Next[i].Version.Minor)&&((p.Now[i].Version.Patch==p.Next[i].Version.Patch)&&true))):=by
   unfold cX
   rw [List.getElem?_eq_getElem hi,List.getElem?_eq_getElem hb]
  rw [←e]
  cases cX p i <;> rfl
 ·have d0:decide ((p.Now.length:Int)<(p.Now.length:Int))=false:=by simp
  simp only [d0,cond_false]
def stU (p:xA) (S i:Nat):List zM:=p.Now.mapIdx fun j a=>if (decide (j<i)&&S.testBit j)=true then (p.Next[j]?).getD a else a
def lR (p:xA) (S:Nat):List zM:=stU p S p.Now.length
@[simp] theorem stU_len (p:xA) (S i:Nat):(stU p S i).length=p.Now.length:=by simp [stU]
theorem zCu {p:xA} (hl:p.Next.length=p.Now.length) {S i j:Nat} (hj:j<p.Now.length):(stU p S i)[j]'(by simpa using hj)=if (decide (j<i)&&S.testBit j)=true then p.Next[j] else p.Now[j]:=by
 simp only [stU,List.getElem_mapIdx]
 have:j<p.Next.length:=by omega
 rw [List.getElem?_eq_getElem this]
 rfl
theorem zRa (p:xA) (S:Nat):stU p S 0=p.Now:=by
 apply List.ext_getElem (by simp)
 intro j h1 h2
 simp [stU]
theorem zRU {p:xA} (hl:p.Next.length=p.Now.length) {S i:Nat} (hi:i<p.Now.length):stU p S (i+1)=if S.testBit i=true then (stU p S i).set i p.Next[i] else stU p S i:=by
 split
 ·rename_i hb
  apply List.ext_getElem (by simp)
  intro j h1 h2
  have hj:j<p.Now.length:=by simpa using h1
  rw [zCu hl hj]
  by_cases hji:j=i
  ·subst hji
   simp [hb]
  ·rw [List.getElem_set_ne (fun h=>hji h.symm),zCu hl hj]
   have:decide (j<i+1)=decide (j<i):=by
    congr 1
    simp only [eq_iff_iff]
    omega
   rw [this]
 ·rename_i hb
  apply List.ext_getElem (by simp)
  intro j h1 h2
  have hj:j<p.Now.length:=by simpa using h1
  rw [zCu hl hj,zCu hl hj]
  by_cases hji:j=i
  ·subst hji
   simp [hb]
  ·have:decide (j<i+1)=decide (j<i):=by
    congr 1
    simp only [eq_iff_iff]
    omega
   rw [this]
theorem zWL {α:Type} {xs:List α} {i:Nat} {y:α} (h:i<xs.length):rZ xs (i:Int) y=some (xs.set i y):=by
 unfold rZ
 rw [if_pos ⟨by omega,by omega⟩]
 simp
theorem zQJ {p:xA} (h:p.Now.length≤8) (hl:p.Next.length=p.Now.length) {S:Nat} (hS:S<256):pH p (S:Int)=some (lR p S):=by
 unfold pH xG
 rw [tC (by simp; omega) (by simp; omega)]
 simp only [List.nil_append,bnd_some]
 refine xY (fun (i:Nat)=>((i:Int),stU p S i)) p.Now.length _ (by rw [zRa]; rfl) (fun i hi=>?_) ?_ rfl
 ·have d0:decide ((i:Int)<(p.Now.length:Int))=true:=by simp; omega
  have hb:i<p.Next.length:=by omega
  have hst:i<(stU p S i).length:=by simpa using hi
  have hd:S / 2 ^ i<4611686018427387904:=Nat.lt_of_le_of_lt (Nat.div_le_self _ _) (by omega)
  simp only [d0,cond_true,zWR (a:=S) (i:=i) (by omega),bnd_some,zVh hd,zOc,yU hb,yU hst,zWL hst,zR hi (by omega),zRU hl hi]
  cases S.testBit i <;> rfl
 ·have d0:decide ((p.Now.length:Int)<(p.Now.length:Int))=false:=by simp
  simp only [d0,cond_false,lR]
theorem iA.name {p:xA} (h:iA p) {i:Nat} (hi:i<p.Now.length):(p.Next[i]'(by rw [h.len]; exact hi)).Name=p.Now[i].Name:=by
 have h2:i<p.Next.length:=by rw [h.len]; exact hi
 have:(wS p.Now)[i]? =(wS p.Next)[i]?:=by rw [h.names]
 simp [wS,hi,h2] at this
 exact (zSA this).symm
theorem zEv {l:List zM} (h:tH l=true) {i:Nat} (hi:i<l.length):cOk l i=true:=by
 unfold tH at h
 exact List.all_eq_true.1 (Bool.and_eq_true_iff.1 h).2 i (by simpa using hi)
theorem zEJ {p:xA} (h:iA p) {S i:Nat} (hi:i<p.Now.length):(lR p S)[i]'(by simpa [lR] using hi)=if S.testBit i=true then p.Next[i]'(by rw [h.len]; exact hi) else p.Now[i]:=by
 unfold lR
 rw [zCu h.len hi]
 simp [hi]
theorem zDN {p:xA} (h:iA p) {S i:Nat} (hi:i<p.Now.length):((lR p S)[i]'(by simpa [lR] using hi)).Name=p.Now[i].Name:=by
 rw [zEJ h hi]
 split
 ·exact h.name hi
 ·rfl
theorem zLh {p:xA} (h:iA p) (S:Nat):tH (lR p S)=true:=by
 unfold tH
 have hlen:(lR p S).length=p.Now.length:=by simp [lR]
 rw [hlen]
 refine Bool.and_eq_true_iff.2 ⟨by simpa using h.le8,List.all_eq_true.2 fun i hi=>?_⟩
 have hi:i<p.Now.length:=by simpa using hi
 have h1:=zEv h.now hi
 have h2:=zEv h.next (i:=i) (by rw [h.len]; exact hi)
 have hs:i<(lR p S).length:=by rw [hlen]; exact hi
 have hn:i<p.Next.length:=by rw [h.len]; exact hi
 unfold cOk at h1 h2 ⊢
 rw [List.getElem?_eq_getElem hs]
 rw [List.getElem?_eq_getElem hi] at h1
 rw [List.getElem?_eq_getElem hn] at h2
 simp only [zDN h hi,Bool.and_eq_true] at h1 h2 ⊢
 refine ⟨⟨h1.1.1,?_⟩,?_⟩
 ·rw [zEJ h hi]
  split
  ·exact h2.1.2
  ·exact h1.1.2
 ·have h3:=h1.2
  by_cases h0:i=0
  ·simp [h0]
  ·have hp:i - 1<p.Now.length:=by omega
   have hps:i - 1<(lR p S).length:=by omega
   rw [List.getElem?_eq_getElem hp] at h3
   rw [List.getElem?_eq_getElem hps]
   simp only [zDN h hp]
   exact h3
def qN (p:xA) (S:Nat):Bool:=p.Needs.all (eR (lR p S))
theorem zTB {p:xA} (h:iA p) {S:Nat} (hS:S<256):tF p (S:Int)=some (qN p S):=by
 unfold tF
 obtain ⟨r,a,b⟩:=gF (lR p S) p.Needs
 rw [zQJ h.le8 h.len hS]
 simp only [bnd_some,a]
 unfold zIn at b
 rw [if_neg (by rw [zLh h]; simp),if_neg (by rw [h.needs]; simp)] at b
 have e:(r.2==0)=true:=by rw [b.1]; rfl
 rw [e]
 simp only [cond_true,bnd_some,b.2]
 rfl
theorem zKe {p:xA} (i:Nat):(yT p).testBit i=(decide (i<p.Now.length)&&cX p i):=zJO _ _ _
section
variable (n F:Nat) (G:Nat→Bool)
def iM (S i:Nat):Bool:=F.testBit i&&(!S.testBit i&&G (S|||2 ^ i))
def zBs:Nat→Nat→Option (List Nat)
 | 0,_=>none
 | k+1,S=>if S=F then some [] else (List.range n).findSome? fun i=>if iM F G S i=true then (zBs k (S|||2 ^ i)).map (i:: ·) else none
def lst (S:Nat):Option (List Nat):=zBs n F G (F - S+1) S
def zAm:Nat→List Nat→Prop
 | S, []=>S=F
 | S,i::l=>iM F G S i=true∧zAm (S|||2 ^ i) l
theorem zKZ {α β:Type} {l:List α} {f g:α→Option β} (h:∀ x∈l,f x=g x):l.findSome? f=l.findSome? g:=by
 induction l with
 | nil=>rfl
 | cons x r ih=>
  rw [List.findSome?_cons,List.findSome?_cons,h x (by simp),ih fun y hy=>h y (by simp [hy])]
theorem jA {F:Nat} {G:Nat→Bool} {S i:Nat} (h:iM F G S i=true):F.testBit i=true∧S.testBit i=false∧G (S|||2 ^ i)=true:=by
 unfold iM at h
 simpa using h
theorem zGr (k k' S:Nat) (hs:cE S F) (h1:F - S<k) (h2:F - S<k'):zBs n F G k S=zBs n F G k' S:=by
 induction k generalizing k' S with
 | zero=>omega
 | succ k ih=>
  cases k' with
  | zero=>omega
  | succ k'=>
   unfold zBs
   by_cases he:S=F
   ·rw [if_pos he,if_pos he]
   ·rw [if_neg he,if_neg he]
    refine zKZ fun i _=>?_
    by_cases hst:iM F G S i=true
    ·rw [if_pos hst,if_pos hst]
     obtain ⟨a,b,_⟩:=jA hst
     have h3:=zNR b
     have h4:=(hs.or a).le
     rw [ih k' (S|||2 ^ i) (hs.or a) (by omega) (by omega)]
    ·rw [if_neg hst,if_neg hst]
theorem zFK {S:Nat} (hs:cE S F) (hne:S≠F):lst n F G S=(List.range n).findSome? fun i=>if iM F G S i=true then (lst n F G (S|||2 ^ i)).map (i:: ·) else none:=by
 have hle:=hs.le
 unfold lst
 conv=>lhs; unfold zBs
 rw [if_neg hne]
 refine zKZ fun i _=>?_
 by_cases hst:iM F G S i=true
 ·rw [if_pos hst,if_pos hst]
  obtain ⟨a,b,_⟩:=jA hst
  have h3:=zNR b
  have h4:=(hs.or a).le
  rw [zGr n F G _ (F - (S|||2 ^ i)+1) _ (hs.or a) (by omega) (by omega)]
 ·rw [if_neg hst,if_neg hst]
theorem zFN:lst n F G F=some []:=by
 unfold lst zBs
 rw [if_pos rfl]
theorem zJS {β:Type} {f:Nat→Option β} {m i:Nat} {v:β} (hi:i<m) (h:f i=some v) (hn:∀ j,j<i→f j=none):(List.range m).findSome? f=some v:=by
 induction m with
 | zero=>omega
 | succ m ih=>
  rw [List.range_succ,List.findSome?_append]
  by_cases hm:i=m
  ·subst hm
   have:(List.range i).findSome? f=none:=List.findSome?_eq_none_iff.2 fun x hx=>hn x (by simpa using hx)
   rw [this]
   simp [h]
  ·rw [ih (by omega)]
   rfl
theorem zTr {β:Type} {f:Nat→Option β} {m:Nat} (hn:∀ j,j<m→f j=none):(List.range m).findSome? f=none:=
 List.findSome?_eq_none_iff.2 fun x hx=>hn x (by simpa using hx)
theorem zTG {β:Type} {f:Nat→Option β} {m:Nat} {v:β} (h:(List.range m).findSome? f=some v):∃ i,i<m∧f i=some v∧∀ j,j<i→f j=none:=by
 induction m with
 | zero=>simp at h
 | succ m ih=>
  rw [List.range_succ,List.findSome?_append] at h
  cases h1:(List.range m).findSome? f with
  | some u=>
   rw [h1] at h
   simp at h
   subst h
   obtain ⟨i,a,b,c⟩:=ih h1
   exact ⟨i,by omega,b,c⟩
  | none=>
   rw [h1] at h
   simp at h
   exact ⟨m,by omega,h,fun j hj=>List.findSome?_eq_none_iff.1 h1 j (by simpa using hj)⟩
theorem zLf (P:Nat→Prop) (h:∀ S,cE S F→(∀ i,iM F G S i=true→P (S|||2 ^ i))→P S):∀ S,cE S F→P S:=by
 have:∀ k S,F - S<k→cE S F→P S:=by
  intro k
  induction k with
  | zero=>intro S h1; omega
  | succ k ih=>
   intro S h1 hs
   refine h S hs fun i hst=>?_
   obtain ⟨a,b,_⟩:=jA hst
   have h3:=zNR b
   have h4:=(hs.or a).le
   exact ih _ (by omega) (hs.or a)
 exact fun S hs=>this (F - S+1) S (by omega) hs
theorem zNl (S:Nat) (hs:cE S F):∀ l,lst n F G S=some l→zAm F G S l:=by
 refine zLf F G (fun S=>∀ l,lst n F G S=some l→zAm F G S l) (fun S hs ih l hl=>?_) S hs
 by_cases he:S=F
 ·subst he
  rw [zFN] at hl
  injection hl with hl
  subst hl
  rfl
 ·rw [zFK n F G hs he] at hl
  obtain ⟨i,_,h1,_⟩:=zTG hl
  split at h1
  ·rename_i hst
   rw [Option.map_eq_some_iff] at h1
   obtain ⟨r,h2,rfl⟩:=h1
   exact ⟨hst,ih i hst r h2⟩
  ·cases h1
theorem zVN {F n i:Nat} (hF:F<2 ^ n) (h:F.testBit i=true):i<n:=by
 rcases Nat.lt_or_ge i n with g | g
 ·exact g
 ·have:=Nat.testBit_lt_two_pow (Nat.lt_of_lt_of_le hF (Nat.pow_le_pow_right (by omega) g))
  rw [this] at h; cases h
end
theorem zPJ (k:IntKind) (a b:Int):(yA k).eq a b=true↔a=b:=by
 show (a==b)=true↔a=b
 exact beq_iff_eq
def aT (n F:Nat) (G:Nat→Bool) (d:List (Int × Bool)):Prop:=∀ T:Nat,cE T F→(vH (yA .i64).eq d (T:Int)).getD false=true→lst n F G T=none
theorem zNt {p:xA} (h:iA p):∀ (fuel S:Nat) (d:List (Int × Bool)) (o:List Int),cE S (yT p)→yT p - S<fuel→o.length+(yT p - S)≤300→aT p.Now.length (yT p) (qN p) d→
    ∃ d',aT p.Now.length (yT p) (qN p) d'∧bY (yT p:Int) p fuel d (S:Int) o=some (d',match lst p.Now.length (yT p) (qN p) S with | some l=>(o++iz l,true) | none=>([],false))
  | 0,S,d,o,_,hf,_,_=>by omega
  | fuel+1,S,d,o,hs,hf,ho,hd=>by
    have hF:yT p<256:=zAu h.le8
    have hle:=hs.le
    show ∃ d',_∧fE (yT p:Int) p (bY (yT p:Int) p fuel) d (S:Int) o=_
    unfold fE
    by_cases he:S=yT p
    · subst he
      have e:((yT p:Int)==(yT p:Int))=true:=by simp
      rw [e,zFN]
      exact ⟨d,hd,by simp⟩
    · have e : ((S : Int) == (yT p : Int)) = false := by
        rw [beq_eq_false_iff_ne]; exact_mod_cast he
      rw [e]
      simp only [cond_false]
      have hstep:=zFK p.Now.length (yT p) (qN p) hs he
      have key:∃ r,bnd (yE (τ:=(List (Int × Bool) × (List Int × Bool)) ⊕ (List (Int × Bool))) (fun (s1:Int × (List (Int × Bool)))=>bif decide (s1.1<(p.Now.length:Int)) then
          bnd (zCl .i64 1 s1.1) fun q1=>bnd (zEN .i64 (yT p:Int) s1.1) fun q2=>
          bif ((rO .i64 q2 1)==0) then some (.next (IntKind.wrap .i64 (s1.1+1),s1.2)) else
          bif ((iOr .i64 (S:Int) q1)==(S:Int)) then some (.next (IntKind.wrap .i64 (s1.1+1),s1.2)) else
          bif (vH (yA .i64).eq s1.2 (iOr .i64 (S:Int) q1)).getD false then some (.next (IntKind.wrap .i64 (s1.1+1),s1.2)) else
          bnd (tF p (iOr .i64 (S:Int) q1)) fun r1=>bif !r1 then some (.next (IntKind.wrap .i64 (s1.1+1),s1.2)) else
          bnd (app 8 o [s1.1]) fun l1=>bnd (bY (yT p:Int) p fuel s1.2 (iOr .i64 (S:Int) q1) l1) fun r2=>
          bif r2.2.2 then some (.done (.inl (r2.1,r2.2.1,true))) else some (.next (IntKind.wrap .i64 (s1.1+1),r2.1))
          else some (.done (.inr s1.2))) (0,d)) (fun o2=>wR o2 fun o3=>some (nH (yA .i64).eq o3 (S:Int) true, [],false))=some r∧
          (aT p.Now.length (yT p) (qN p) r.1∧r.2=match lst p.Now.length (yT p) (qN p) S with | some l=>(o++iz l,true) | none=>([],false)):=by
        refine bA (fun s=>∃ i:Nat,i≤p.Now.length∧s.1=(i:Int)∧aT p.Now.length (yT p) (qN p) s.2∧∀ j,j<i→(if iM (yT p) (qN p) S j=true then (lst p.Now.length (yT p) (qN p) (S|||2 ^ j)).map (j:: ·) else none)=none)
          (fun s=>p.Now.length - s.1.toNat)
          (fun t=>match t with
            | .inl r=>aT p.Now.length (yT p) (qN p) r.1∧∃ l,lst p.Now.length (yT p) (qN p) S=some l∧r.2=(o++iz l,true)
            | .inr d'=>aT p.Now.length (yT p) (qN p) d'∧lst p.Now.length (yT p) (qN p) S=none) ⟨0,by omega,rfl,hd,fun j hj=>by omega⟩ (fun s hI=>?_) (fun t ht=>?_)
        · obtain ⟨i, hi, h1, h2, h3⟩ := hI
          obtain ⟨s1,s2⟩:=s
          simp only at h1 h2
          subst h1
          by_cases hin:i<p.Now.length
          · have hi8 : i < 8 := by have := h.le8; omega
            have d0:decide ((i:Int)<(p.Now.length:Int))=true:=by simp; omega
            have hdv:yT p / 2 ^ i<4611686018427387904:=Nat.lt_of_le_of_lt (Nat.div_le_self _ _) (by omega)
            have hS:S<256:=by omega
            have hw:=zR hin (by have:=h.le8; omega)
            have hnext:∀ d',aT p.Now.length (yT p) (qN p) d'→(if iM (yT p) (qN p) S i=true then (lst p.Now.length (yT p) (qN p) (S|||2 ^ i)).map (i:: ·) else none)=none→
                ∃ i':Nat,i'≤p.Now.length∧(((i+1:Nat):Int),d').1=(i':Int)∧aT p.Now.length (yT p) (qN p) (((i+1:Nat):Int),d').2∧∀ j,j<i'→(if iM (yT p) (qN p) S j=true then (lst p.Now.length (yT p) (qN p) (S|||2 ^ j)).map (j:: ·) else none)=none:=
              fun d' hd' hno=>⟨i+1,by omega,rfl,hd',fun j hj=>by
                by_cases hji:j=i
                · subst hji; exact hno
                · exact h3 j (by omega)⟩
            have hmu:∀ d':List (Int × Bool),p.Now.length - (((i+1:Nat):Int),d').1.toNat<p.Now.length - ((i:Int),s2).1.toNat:=fun d'=>by
              show p.Now.length - ((i+1:Nat):Int).toNat<p.Now.length - ((i:Nat):Int).toNat
              omega
            simp only [d0,cond_true,zWT hi8,zWR (a:=yT p) (i:=i) (by omega),bnd_some,zVh hdv,zSQ,or1 hS hi8,zTo,hw]
            cases hb1:(yT p).testBit i
            · refine .inl ⟨_, rfl, hnext s2 h2 ?_, hmu s2⟩
              rw [if_neg]
              unfold iM
              simp [hb1]
            cases hb2:S.testBit i
            · simp only [Bool.not_true, cond_false]
              have hor:=zWS hS hi8
              have hsub:=hs.or hb1
              cases hb3:(vH (yA .i64).eq s2 (((S|||2 ^ i:Nat)):Int)).getD false
              · simp only [cond_false, zTB h hor, bnd_some]
                cases hb4:qN p (S|||2 ^ i)
                · refine .inl ⟨_, rfl, hnext s2 h2 ?_, hmu s2⟩
                  rw [if_neg]
                  unfold iM
                  simp [hb4]
                · simp only [Bool.not_true, cond_false]
                  have hlt:=zNR hb2
                  have hle2:=hsub.le
                  have hst:iM (yT p) (qN p) S i=true:=by unfold iM; simp [hb1,hb2,hb4]
                  rw [tC (by simp; omega) (by simp; omega)]
                  simp only [bnd_some]
                  obtain ⟨d',hd',hm⟩:=zNt h fuel (S|||2 ^ i) s2 (o++ [(i:Int)]) hsub (by omega) (by simp; omega) h2
                  rw [hm]
                  simp only [bnd_some]
                  cases hl:lst p.Now.length (yT p) (qN p) (S|||2 ^ i) with
                  | none=>
                    refine .inl ⟨_,rfl,hnext d' hd' ?_,hmu d'⟩
                    rw [if_pos hst,hl]
                    rfl
                  | some l=>
                    refine .inr ⟨_,rfl,hd',i::l,?_,?_⟩
                    · rw [hstep]
                      refine zJS hin ?_ h3
                      rw [if_pos hst,hl]
                      rfl
                    · simp [iz]
              · refine .inl ⟨_, rfl, hnext s2 h2 ?_, hmu s2⟩
                have:=h2 _ hsub hb3
                rw [this]
                simp
            · refine .inl ⟨_, rfl, hnext s2 h2 ?_, hmu s2⟩
              rw [if_neg]
              unfold iM
              simp [hb2]
          · have d0 : decide ((i : Int) < (p.Now.length : Int)) = false := by simp; omega
            rw [d0]
            refine .inr ⟨_,rfl,h2,?_⟩
            rw [hstep]
            exact zTr fun j hj=>h3 j (by omega)
        · rcases t with r | d'
          · obtain ⟨h1, l, h2, h3⟩ := ht
            refine ⟨r,rfl,h1,?_⟩
            rw [h2,h3]
          · obtain ⟨h1, h2⟩ := ht
            refine ⟨_,rfl,?_,by rw [h2]⟩
            intro T hT hg
            rw [zCG (zPJ .i64)] at hg
            by_cases hTS:(T:Int)=(S:Int)
            · have : T = S := by exact_mod_cast hTS
              subst this
              exact h2
            · rw [if_neg hTS] at hg
              exact h1 T hT hg
      obtain ⟨r,k1,k2,k3⟩:=key
      refine ⟨r.1,k2,?_⟩
      rw [k1,←k3]
def eT (p:xA):Option (List Nat):=lst p.Now.length (yT p) (qN p) 0
theorem zKb (p:xA):uT p=some (if sK p=0 then (match eT p with | some l=>(iz l,0) | none=>([],41)) else ([],(sK p:Int))):=by
 unfold uT
 rw [zKI]
 simp only [bnd_some]
 by_cases hv:sK p=0
 ·have h:=zMQ.1 hv
  have e:((sK p:Int) != 0)=false:=by rw [hv]; rfl
  rw [e,if_pos hv,zRg h.le8 h.len]
  simp only [cond_false,bnd_some]
  have hF:yT p<256:=zAu h.le8
  obtain ⟨d',_,hm⟩:=zNt h aC 0 [] [] (cE.zero _) (by unfold aC; omega) (by simp; omega) (fun T _ hg=>by simp [vH] at hg)
  have hm':bY (yT p:Int) p aC [] 0 []=_:=hm
  rw [hm']
  simp only [bnd_some]
  unfold eT
  cases lst p.Now.length (yT p) (qN p) 0 <;> simp
 ·have e:((sK p:Int) != 0)=true:=by
   rw [bne_iff_ne]; exact_mod_cast hv
  rw [e,if_neg hv]
  rfl
end Go.Proofs.YtplchdlgdjcojaaGreatDoor
end
section
namespace Go.Proofs.YtplchdlgdjcojaaGreatDoor
open Go
set_option linter.unusedSimpArgs false
set_option linter.unusedVariables false
def zUt:zJ:=⟨1,0,0⟩
def eC:zJ:=⟨2,0,0⟩
def exA:ByteArray:=⟨#[97]⟩
def exB:ByteArray:=⟨#[98]⟩
def exP (needs:List zX):xA:=⟨[⟨exA,zUt⟩,⟨exB,zUt⟩], [⟨exA,eC⟩,⟨exB,eC⟩],needs⟩
set_option maxRecDepth 20000 in
theorem ex1:sK (exP [⟨exA,eC,exB,eC⟩])=0∧eT (exP [⟨exA,eC,exB,eC⟩])=some [1,0]:=by decide
set_option maxRecDepth 20000 in
theorem ex2:sK (exP [⟨exA,eC,exB,eC⟩,⟨exB,eC,exA,eC⟩])=0∧eT (exP [⟨exA,eC,exB,eC⟩,⟨exB,eC,exA,eC⟩])=none:=by decide
def xV (n F:Nat):List Nat:=(List.range n).filter F.testBit
theorem zIF {F i:Nat} (hF:F<2 ^ i):∀ d,xV (i+d) F=xV i F
 | 0=>rfl
 | d+1=>by
  have ih:=zIF hF d
  unfold xV at*
  rw [show i+(d+1)=(i+d)+1 by omega,List.range_succ,List.filter_append,ih]
  have:F.testBit (i+d)=false:=Nat.testBit_lt_two_pow (Nat.lt_of_lt_of_le hF (Nat.pow_le_pow_right (by omega) (by omega)))
  simp [this]
theorem zTM {F i n:Nat} (hi:F<2 ^ i) (hn:F<2 ^ n):xV i F=xV n F:=by
 rcases Nat.le_total i n with g | g
 ·rw [show n=i+(n - i) by omega,zIF hi]
 ·rw [show i=n+(i - n) by omega,zIF hn]
theorem hM (F i:Nat):xV (i+1) F=if F.testBit i=true then xV i F++ [i] else xV i F:=by
 unfold xV
 rw [List.range_succ,List.filter_append]
 cases h:F.testBit i <;> simp [h]
theorem zPY (p:xA):pE p=some (if sK p=0 then iz (xV p.Now.length (yT p)) else []):=by
 unfold pE
 rw [zKI]
 simp only [bnd_some]
 by_cases hv:sK p=0
 ·have h:=zMQ.1 hv
  have e:((sK p:Int) != 0)=false:=by rw [hv]; rfl
  rw [e,if_pos hv,zRg h.le8 h.len]
  simp only [cond_false,bnd_some]
  have hF:yT p<256:=zAu h.le8
  have hFn:yT p<2 ^ p.Now.length:=zIi _ _
  have key:∃ r,bnd (yE (τ:=List Int) (fun (s1:List Int × Int × Int)=>bif decide (s1.2.2>0) then (bif ((rO .i64 s1.2.2 1)==1) then (bnd (app 8 s1.1 [s1.2.1]) fun l1=>some (.next (l1,IntKind.wrap .i64 (s1.2.1+1),uA .i64 s1.2.2 1))) else (some (.next (s1.1,IntKind.wrap .i64 (s1.2.1+1),uA .i64 s1.2.2 1)))) else (some (.done s1.1))) ([],0,(yT p:Int))) (fun o1=>some o1)=some r∧r=iz (xV p.Now.length (yT p)):=by
   refine bA (fun s=>∃ i:Nat,i≤8∧s=(iz (xV i (yT p)),(i:Int),((yT p / 2 ^ i:Nat):Int))) (fun s=>9 - s.2.1.toNat) (fun t=>t=iz (xV p.Now.length (yT p))) ⟨0,by omega,by simp [xV]⟩ (fun s hI=>?_) (fun t ht=>⟨t,rfl,ht⟩)
   obtain ⟨i,hi,rfl⟩:=hI
   have hd1:yT p / 2 ^ i<4611686018427387904:=Nat.lt_of_le_of_lt (Nat.div_le_self _ _) (by omega)
   by_cases hz:yT p / 2 ^ i=0
   ·have e1:decide (((yT p / 2 ^ i:Nat):Int)>0)=false:=by rw [hz]; rfl
    simp only [e1,cond_false]
    refine .inr ⟨_,rfl,?_⟩
    have hlt:yT p<2 ^ i:=by
     rcases Nat.lt_or_ge (yT p) (2 ^ i) with g | g
     ·exact g
     ·have:=Nat.div_pos g (Nat.two_pow_pos i)
      omega
    rw [zTM hlt hFn]
   ·have e1:decide (((yT p / 2 ^ i:Nat):Int)>0)=true:=decide_eq_true (Int.natCast_pos.2 (Nat.pos_of_ne_zero hz))
    have hi8:i<8:=by
     rcases Nat.lt_or_ge i 8 with g | g
     ·exact g
     ·have:i=8:=by omega
      subst this
      have:yT p / 2 ^ 8=0:=Nat.div_eq_of_lt (by omega)
      omega
    have hb:(rO .i64 ((yT p / 2 ^ i:Nat):Int) 1==1)=(yT p).testBit i:=by rw [zVh hd1,zOc]
    have hsh:uA .i64 ((yT p / 2 ^ i:Nat):Int) 1=((yT p / 2 ^ (i+1):Nat):Int):=by
     have:=eG (k:=.i64) (a:=yT p / 2 ^ i) (s:=1) (by decide)
     rw [show ((1:Nat):Int)=1 from rfl] at this
     rw [this,Nat.div_div_eq_div_mul,←Nat.pow_add]
    have hw:=zR hi8 (by omega)
    have hap:app 8 (iz (xV i (yT p))) [(i:Int)]=some (iz (xV i (yT p)++ [i])):=by
     have hlen:(xV i (yT p)).length≤8:=Nat.le_trans (List.length_filter_le _ _) (by simp; omega)
     rw [tC (by simp; omega) (by simp; omega)]
     simp [iz]
    simp only [e1,cond_true,hb,hsh,hw]
    refine .inl ?_
    cases hbi:(yT p).testBit i
    ·refine ⟨_,rfl,⟨i+1,by omega,?_⟩,?_⟩
     ·rw [hM,hbi]; rfl
     ·show 9 - ((i+1:Nat):Int).toNat<9 - ((i:Nat):Int).toNat
      omega
    ·simp only [cond_true,hap,bnd_some]
     refine ⟨_,rfl,⟨i+1,by omega,?_⟩,?_⟩
     ·rw [hM,hbi]; rfl
     ·show 9 - ((i+1:Nat):Int).toNat<9 - ((i:Nat):Int).toNat
      omega
  obtain ⟨r,k1,k2⟩:=key
  rw [k1,k2]
 ·have e:((sK p:Int) != 0)=true:=by
   rw [bne_iff_ne]; exact_mod_cast hv
  rw [e,if_neg hv]
  rfl
theorem zJw {F:Nat} {G:Nat→Bool} {n:Nat} (hF:F<2 ^ n):∀ {l:List Nat} {S:Nat},zAm F G S l→l.length+(xV n S).length=(xV n F).length
  | [],S,h=>by
    have:S=F:=h
    subst this; simp
  | i::l,S,h=>by
    obtain ⟨hst,hp⟩:=h
    obtain ⟨a,b,_⟩:=jA hst
    have hin:=zVN hF a
    have ih:=zJw hF hp
    have key:(xV n (S|||2 ^ i)).length=(xV n S).length+1:=by
      have:∀ m,(xV m (S|||2 ^ i)).length=(xV m S).length+(if i<m then 1 else 0):=by
        intro m
        induction m with
        | zero=>simp [xV]
        | succ m ihm=>
          rw [hM,hM,zIS]
          by_cases hm:i=m
          · subst hm
            simp [b,ihm]
          · simp only [hm, decide_false, Bool.or_false]
            cases S.testBit m
            · simp only [Bool.false_eq_true, if_false, ihm]
              by_cases h1:i<m
              · rw [if_pos h1,if_pos (by omega)]
              · rw [if_neg h1,if_neg (by omega)]
            · simp only [if_true, List.length_append, ihm, List.length_singleton]
              by_cases h1:i<m
              · rw [if_pos h1,if_pos (by omega)]
              · rw [if_neg h1,if_neg (by omega)]
      rw [this n,if_pos hin]
    rw [key] at ih
    rw [List.length_cons]
    omega
theorem zGP {F:Nat} {G:Nat→Bool}:∀ {l:List Nat} {S:Nat},zAm F G S l→∀ i∈l,F.testBit i=true
 | [],S,h,i,hi=>by cases hi
 | j::l,S,h,i,hi=>by
  obtain ⟨hst,hp⟩:=h
  rcases List.mem_cons.1 hi with rfl | hi
  ·exact (jA hst).1
  ·exact zGP hp i hi
end Go.Proofs.YtplchdlgdjcojaaGreatDoor
end
section
namespace Go.Proofs.YtplchdlgdjcojaaGreatDoor
open Go
set_option linter.unusedSimpArgs false
set_option linter.unusedVariables false
theorem fQ {σ τ ρ:Type} {m:σ→Option (rN σ τ)} {s0:σ} {k:τ→Option ρ} {R:ρ→Prop} (I:σ→Prop) (μ:σ→Nat) (Q:τ→Prop) (h0:I s0)
  (h:∀ s,I s→∃ r,m s=some r∧match r with | .next s'=>I s'∧μ s'<μ s | .done t=>Q t) (hk:∀ t,Q t→∃ r,k t=some r∧R r):∃ r,bnd (yE m s0) k=some r∧R r:=by
 refine bA I μ Q h0 (fun s hI=>?_) hk
 obtain ⟨r,h1,h2⟩:=h s hI
 cases r with
 | next s'=>exact .inl ⟨s',h1,h2.1,h2.2⟩
 | done t=>exact .inr ⟨t,h1,h2⟩
def lT:List ByteArray:= [⟨#[98,105,111,115]⟩,⟨#[99,112,108,100]⟩,⟨#[109,101]⟩,⟨#[112,115,117]⟩,⟨#[120,45,49]⟩,⟨#[122,122]⟩]
theorem zQy:jE=some lT:=rfl
def lM (l:List ByteArray):Bool:=decide (l.length≤8)&&(List.range l.length).all fun i=>match l[i]? with
 | some x=>lI x&&(i==0||match l[i - 1]? with | some y=>blt y x | none=>true)
 | none=>true
set_option maxRecDepth 20000 in
theorem zTU:∀ k,k<7→lM (lT.take k)=true:=by decide
set_option maxRecDepth 20000 in
theorem zVG:∀ i,i<6→lI ((lT[i]?).getD ⟨#[]⟩)=true:=by decide
structure zXA (p:xA):Prop where
 now:tH p.Now=true
 next:tH p.Next=true
 needs:jN p.Needs=true
 names:wS p.Now=wS p.Next
 few:p.Needs.length≤6
 two:2≤p.Now.length
theorem fO {c:xW} (h:vX c) {n:Int} (hn:1≤n):∃ r,yK c n=some r∧vX r.1∧0≤r.2∧r.2<n:=by
 obtain ⟨c',x,h1,h2,h3,h4⟩:=zTS h n
 exact ⟨(c',x),h1,h2,h3,by show x<n; omega⟩
theorem qB {α β:Type} {x:Option α} {f:α→Option β} {P:α→Prop} {R:β→Prop} (h:∃ a,x=some a∧P a) (k:∀ a,P a→∃ r,f a=some r∧R r):∃ r,bnd x f=some r∧R r:=zWo h k
theorem zMP {p:xA} {l:List Nat} (h:eT p=some l):zAm (yT p) (qN p) 0 l:=zNl _ _ _ _ (cE.zero _) l h
theorem zMC {p:xA} (hv:sK p=0) {l:List Nat} (hp:zAm (yT p) (qN p) 0 l):l.length≤8:=by
 have h:=zMQ.1 hv
 have:=zJw (F:=yT p) (n:=p.Now.length) (zIi _ _) hp
 have h2:(xV p.Now.length (yT p)).length≤8:=Nat.le_trans (List.length_filter_le _ _) (by simp; exact h.le8)
 omega
end Go.Proofs.YtplchdlgdjcojaaGreatDoor
end
section
namespace Go.Proofs.YtplchdlgdjcojaaGreatDoor
open Go
set_option linter.unusedSimpArgs false
set_option linter.unusedVariables false
def zDe:List Int→Option (zF × Nat)
 | k::n::r=>if n=128 then some (⟨k, [],true⟩,2) else if n>28∨(r.length:Int)<n then none else some (⟨k,r.take n.toNat,false⟩,2+n.toNat)
 | _=>none
theorem kU (k n:Int) (r:List Int):zDe (k::n::r)=if n=128 then some (⟨k, [],true⟩,2) else if n>28∨(r.length:Int)<n then none else some (⟨k,r.take n.toNat,false⟩,2+n.toNat):=rfl
theorem zCt {b:List Int} {x:zF} {n:Nat} (hr:rng b) (h:zDe b=some (x,n)):2≤n∧n≤b.length:=by
 match b,h with
 | k::c::r,h=>
  rw [kU] at h
  split at h
  ·injection h with h; injection h with _ h; subst h; simp
  ·split at h
   ·cases h
   ·rename_i h1
    have:=hr c (by simp)
    injection h with h; injection h with _ h; subst h
    simp only [List.length_cons]
    omega
theorem zEs {α:Type} {l:List α} {a b:Nat} (h1:a≤b) (h2:b≤l.length):Go.Proofs.YtplchdlgdjcojaaGreatDoor.sub l (a:Int) (b:Int)=some ((l.drop a).take (b - a)):=by
 unfold Go.Proofs.YtplchdlgdjcojaaGreatDoor.sub
 rw [if_pos ⟨by omega,by omega,by omega⟩]
 congr 1
 have e1:((a:Int)).toNat=a:=rfl
 have e2:((b:Int)).toNat=b:=rfl
 rw [e1,e2,List.drop_take]
def zSC (o:Option (zF × Nat)):zF × Int × Bool:=match o with | some (x,n)=>(x,(n:Int),true) | none=>(⟨0, [],false⟩,0,false)
theorem zOK {b:List Int} (hr:rng b) (hl:b.length≤16384):rH b=some (zSC (zDe b)):=by
 unfold rH
 match b,hr,hl with
 | [],_,_=>rfl
 | [k],_,_=>rfl
 | k::c::r,hr,hl=>
  have hc:=hr c (by simp)
  simp only [List.length_cons] at hl
  have e0:elt (k::c::r) 0=some k:=rfl
  have e1:elt (k::c::r) 1=some c:=rfl
  rw [yR (by simp only [List.length_cons,decide_eq_false_iff_not]; omega),e1,bnd_some,e0,kU]
  by_cases h1:c=128
  ·rw [xD (by simpa using h1),bnd_some,if_pos h1]
   rfl
  ·rw [yR (by simpa using h1),if_neg h1]
   obtain ⟨n,hn,rfl⟩:=sP hc
   have hw:IntKind.wrap .i64 (2+IntKind.wrap .i64 (n:Int))=((2+n:Nat):Int):=by rw [yS (by omega),yQ (by omega) (by omega)]; omega
   rw [hw]
   by_cases h2:(n:Int)>28
   ·rw [xD (by simpa using h2),bnd_some,cond_true,if_pos (.inl h2)]
    rfl
   ·rw [yR (by simpa using h2),bnd_some]
    by_cases h3:(r.length:Int)<(n:Int)
    ·rw [xD (by simp only [List.length_cons,decide_eq_true_eq]; omega),if_pos (.inr h3)]
     rfl
    ·rw [yR (by simp only [List.length_cons,decide_eq_false_iff_not]; omega),bnd_some,if_neg (by omega)]
     have hs:Go.Proofs.YtplchdlgdjcojaaGreatDoor.sub (k::(n:Int)::r) 2 ((2+n:Nat):Int)=some (r.take n):=by
      have:=zEs (l:=k::(n:Int)::r) (a:=2) (b:=2+n) (by omega) (by simp; omega)
      rw [Nat.add_sub_cancel_left] at this
      exact this
     rw [hs,bnd_some,lH (by simp; omega),bnd_some]
     rfl
def kG:Nat→List Int→Option (List zF × Nat)
 | 0,_=>some ([],0)
 | c+1,b=>match zDe b with
  | none=>none
  | some (x,n)=>match kG c (b.drop n) with
   | none=>none
   | some (l,m)=>some (x::l,n+m)
theorem zDq:∀ (c:Nat) {b:List Int} {l:List zF} {n:Nat},rng b→kG c b=some (l,n)→n≤b.length∧l.length=c
 | 0,b,l,n,_,h=>by injection h with h; injection h with h1 h2; subst h1; subst h2; simp
 | c+1,b,l,n,hr,h=>by
  unfold kG at h
  split at h
  ·cases h
  ·rename_i x k hk
   split at h
   ·cases h
   ·rename_i l' m hm
    injection h with h; injection h with h1 h2
    subst h1; subst h2
    have h3:=zCt hr hk
    have h4:=zDq c (hr.drop k) hm
    simp only [List.length_drop,List.length_cons] at*
    omega
def rR:List Int→Option (List zF × Nat)
 | []=>none
 | c::r=>if c<1∨c>32 then none else match kG c.toNat r with
  | none=>none
  | some (l,n)=>if r[n]? =some 0 then some (l,n+2) else none
theorem qW (c:Int) (r:List Int):rR (c::r)=if c<1∨c>32 then none else match kG c.toNat r with
  | none=>none
  | some (l,n)=>if r[n]? =some 0 then some (l,n+2) else none:=rfl
theorem oL {b:List Int} {l:List zF} {n:Nat} (hr:rng b) (h:rR b=some (l,n)):2≤n∧n≤b.length:=by
 match b,h with
 | c::r,h=>
  rw [qW] at h
  split at h
  ·cases h
  ·split at h
   ·cases h
   ·rename_i l' m hm
    split at h
    ·rename_i h0
     injection h with h; injection h with _ h; subst h
     have:=(List.getElem?_eq_some_iff.1 h0).1
     simp only [List.length_cons]
     omega
    ·cases h
def zGe (o:Option (List zF × Nat)):List zF × Int × Bool:=match o with | some (l,n)=>(l,(n:Int),true) | none=>([],0,false)
noncomputable def dC (b_p0:List Int) (x2:Int):List zF × Int × Int→Option (rN (List zF × Int × Int) (((List zF) × Int × Bool) ⊕ (List zF × Int))):=
 (fun (s1:List zF × Int × Int)=>bif decide (s1.2.2<x2) then (bnd (Go.Proofs.YtplchdlgdjcojaaGreatDoor.sub b_p0 s1.2.1 (b_p0.length:Int)) fun l1=>bnd (rH l1) fun r1=>bif !r1.2.2 then (some (.done (.inl ([],0,false)))) else (bnd (app 40 s1.1 [r1.1]) fun l2=>some (.next (l2,IntKind.wrap .i64 (s1.2.1+r1.2.1),IntKind.wrap .u8 (s1.2.2+1))))) else (some (.done (.inr (s1.1,s1.2.1)))))
theorem zEK {b:List Int} (hr:rng b) (hl:b.length≤16384) (c:Nat) (hc:c≤32):∀ (k i at_:Nat) (acc:List zF),i+k=c→at_≤b.length→acc.length≤i→
  yE (dC b (c:Int)) (acc,(at_:Int),(i:Int))=some (match kG k (b.drop at_) with | none=>.inl ([],0,false) | some (l,n)=>.inr (acc++l,((at_+n:Nat):Int)))
 | 0,i,at_,acc,h,_,_=>by
  refine xT ?_
  unfold dC
  simp only
  rw [yR (by simp; omega)]
  simp [kG]
 | k+1,i,at_,acc,h,hat,hacc=>by
  have hsub:Go.Proofs.YtplchdlgdjcojaaGreatDoor.sub b (at_:Int) (b.length:Int)=some (b.drop at_):=by
   rw [zEs hat (Nat.le_refl _)]
   congr 1
   rw [List.take_of_length_le (by simp)]
  have hstep:dC b (c:Int) (acc,(at_:Int),(i:Int))=some (match zDe (b.drop at_) with | none=>.done (.inl ([],0,false)) | some (x,n)=>.next (acc++ [x],((at_+n:Nat):Int),((i+1:Nat):Int))):=by
   unfold dC
   simp only
   rw [xD (by simp; omega),hsub,bnd_some,zOK (hr.drop _) (by simp; omega),bnd_some]
   cases hcg:zDe (b.drop at_) with
   | none=>rfl
   | some p=>
    obtain ⟨x,n⟩:=p
    have hn:=zCt (hr.drop _) hcg
    simp only [List.length_drop] at hn
    simp only [zSC,Bool.not_true,cond_false]
    rw [tC (by simp; omega) (by simp; omega),bnd_some,yQ (by omega) (by omega),zAt (by omega) (by omega)]
    rfl
  unfold kG
  cases hcg:zDe (b.drop at_) with
  | none=>rw [hcg] at hstep; exact xT hstep
  | some p=>
   obtain ⟨x,n⟩:=p
   have hn:=zCt (hr.drop _) hcg
   simp only [List.length_drop] at hn
   rw [hcg] at hstep
   refine tJ hstep ?_
   rw [zEK hr hl c hc k (i+1) (at_+n) (acc++ [x]) (by omega) (by omega) (by simp; omega)]
   simp only [List.drop_drop]
   cases hcs:kG k (b.drop (at_+n)) with
   | none=>rfl
   | some q=>
    obtain ⟨l,m⟩:=q
    simp only [List.append_assoc,List.singleton_append]
    rw [Nat.add_assoc]
theorem zQl {b:List Int} (hr:rng b) (hl:b.length≤16384):qI b=some (zGe (rR b)):=by
  unfold qI
  match b,hr,hl with
  | [],_,_=>rfl
  | c::r,hr,hl=>
    have hc:=hr c (by simp)
    have e0:elt (c::r) 0=some c:=rfl
    have hr':rng r:=fun x hx=>hr x (by simp [hx])
    simp only [List.length_cons] at hl
    rw [yR (by simp only [List.length_cons,beq_eq_false_iff_ne,ne_eq]; omega),e0,bnd_some,qW]
    by_cases h1:c<1
    · rw [xD (by simpa using h1), bnd_some, cond_true, if_pos (.inl h1)]
      rfl
    · rw [yR (by simpa using h1), bnd_some]
      by_cases h2:c>32
      · rw [xD (by simpa using h2), if_pos (.inr h2)]
        rfl
      · rw [yR (by simpa using h2), bnd_some, if_neg (by omega)]
        obtain ⟨n,hn,rfl⟩:=sP hc
        have hlp:=zEK hr (by simp; omega) n (by omega) n 0 1 [] (by omega) (by simp) (by simp)
        unfold dC at hlp
        refine yD hlp ?_
        have e2:((n:Int)).toNat=n:=rfl
        rw [List.drop_succ_cons,List.drop_zero,e2]
        cases hcs:kG n r with
        | none=>rfl
        | some q=>
          obtain ⟨l,m⟩:=q
          have hm:=(zDq n hr' hcs).1
          simp only [List.nil_append,retOr_inr,List.length_cons]
          by_cases h3:1+m=r.length+1
          · rw [xD (by simp; omega), bnd_some, cond_true, if_neg (by rw [List.getElem?_eq_none (by omega)]; simp)]
            rfl
          · have hmr : m < r.length := by omega
            have e3:elt ((n:Int)::r) ((1+m:Nat):Int)=some r[m]:=by
              rw [elt_nat,Nat.add_comm,List.getElem?_cons_succ,List.getElem?_eq_getElem hmr]
            rw [yR (by simp; omega),e3,bnd_some,bnd_some,List.getElem?_eq_getElem hmr]
            by_cases h4:r[m]=0
            · rw [yR (by simpa using h4), if_pos (by rw [h4]), yQ (by omega) (by omega)]
              simp only [zGe]
              congr 3
              omega
            · rw [xD (by simpa using h4), if_neg (by simpa using h4)]
              rfl
def eL (x:zF):List Int:=if x.Delete then [x.Key,128] else x.Key::IntKind.wrap .u8 (x.Value.length:Int)::x.Value
def wA (l:List zF):List Int:=IntKind.wrap .u8 (l.length:Int)::l.flatMap eL++ [0]
theorem zKp (x:zF):2≤(eL x).length∧(eL x).length≤2+x.Value.length:=by
 unfold eL
 split
 ·simp
 ·simp only [List.length_cons]
  omega
theorem zSM {l:List zF} (h:∀ x∈l,x.Value.length≤1000):(l.flatMap eL).length≤l.length*1002:=by
 induction l with
 | nil=>simp
 | cons x r ih=>
  have h1:=(zKp x).2
  have h2:=h x (by simp)
  have h3:=ih fun y hy=>h y (by simp [hy])
  simp only [List.flatMap_cons,List.length_append,List.length_cons]
  omega
theorem zHQ {l:List zF} (hl:l.length≤1000) (hv:∀ x∈l,x.Value.length≤1000):rP l=some (wA l):=by
 unfold rP
 have hb:∀ i,i≤l.length→(IntKind.wrap .u8 (l.length:Int)::(l.take i).flatMap eL).length≤1+i*1002:=fun i hi=>by
  have:=zSM (l:=l.take i) fun x hx=>hv x (List.mem_of_mem_take hx)
  simp only [List.length_take,List.length_cons] at*
  rw [Nat.min_eq_left hi] at this
  omega
 refine xY (fun i=>(IntKind.wrap .u8 (l.length:Int)::(l.take i).flatMap eL,(i:Int))) l.length (IntKind.wrap .u8 (l.length:Int)::l.flatMap eL) rfl (fun i hi=>?_) ?_ ?_
 ·have h1:=hb i (by omega)
  have h2:=hv l[i] (List.getElem_mem hi)
  have h3:i*1002≤1000*1002:=Nat.mul_le_mul_right _ (by omega)
  simp only
  rw [xD (by simp; omega),yU hi,bnd_some,xK hi,List.flatMap_append]
  simp only [List.flatMap_cons,List.flatMap_nil,List.append_nil]
  have hE:∀ (z:List Int),(IntKind.wrap .u8 (l.length:Int)::((l.take i).flatMap eL++z))=(IntKind.wrap .u8 (l.length:Int)::(l.take i).flatMap eL)++z:=fun z=>rfl
  rw [hE]
  generalize hpre:IntKind.wrap .u8 (l.length:Int)::(l.take i).flatMap eL=pre at h1 ⊢
  unfold eL
  cases hd:l[i].Delete
  ·simp only [cond_false]
   rw [tC (by simp; omega) (by simp; omega),bnd_some,tC (by simp; omega) (by simp; omega),bnd_some,zR hi (by omega)]
   simp
  ·simp only [cond_true]
   rw [tC (by simp; omega) (by simp; omega),bnd_some,zR hi (by omega)]
   simp
 ·simp only
  rw [yR (by simp),List.take_length]
 ·have h1:=hb l.length (Nat.le_refl _)
  rw [List.take_length] at h1
  have h3:l.length*1002≤1000*1002:=Nat.mul_le_mul_right _ hl
  rw [tC (by simp only [List.length_cons,List.length_nil] at*; omega) (by simp only [List.length_cons,List.length_nil] at*; omega),bnd_some]
  rfl
def sT (b:List Int):Bool:=b.all fun x=>x==255
theorem zKP {b:List Int} (hl:b.length≤16384):qL b=some (sT b):=by
 unfold qL wU vK
 have hf:∀ i (h:i<b.length),(fun i:Nat=>if (b.getD i 255 != 255) then some (.inl (i:Int):Int ⊕ Unit) else none) i=if (fun x:Int=>x != 255) b[i] then some ((fun (i:Nat) (_:Int)=>(.inl (i:Int):Int ⊕ Unit)) i b[i]) else none:=fun i h=>by
  simp only [List.getD_eq_getElem?_getD,List.getElem?_eq_getElem h,Option.getD_some]
 have hL:=zCX (m:=fun (s1:Int)=>bif decide (s1<(b.length:Int)) then (bnd (elt b s1) fun x1=>bnd (sM x1) fun r1=>bif r1 then (some (.done (.inl s1:Int ⊕ Unit))) else (some (.next (IntKind.wrap .i64 (s1+1))))) else (some (.done (.inr ())))) (fun i=>(i:Int)) b.length (fun i=>if (b.getD i 255 != 255) then some (.inl (i:Int):Int ⊕ Unit) else none) (t:=.inr ()) (fun i hi=>?_) ?_
 ·have h0:((0:Nat):Int)=0:=rfl
  rw [h0] at hL
  rw [hL,bnd_some]
  rcases zBl b (fun x=>x != 255) (fun i _=>(.inl (i:Int):Int ⊕ Unit)) _ hf with ⟨i,hi,h1,_,h3⟩ | ⟨_,h2,h3⟩
  ·rw [h3]
   simp only [Option.getD_some,retOr_inl,bnd_some]
   congr 1
   have:sT b=false:=by
    unfold sT
    rw [List.all_eq_false]
    exact ⟨b[i],List.getElem_mem hi,by simpa using h1⟩
   rw [this]
   simp
  ·rw [h3]
   simp only [Option.getD_none,retOr_inr,bnd_some]
   congr 1
   have:sT b=true:=by
    unfold sT
    rw [List.all_eq_true]
    intro x hx
    simpa using h2 x hx
   rw [this]
   rfl
 ·rw [xD (by simp; omega),yU hi,bnd_some]
  unfold sM
  rw [bnd_some,List.getD_eq_getElem?_getD,List.getElem?_eq_getElem hi]
  simp only [Option.getD_some]
  by_cases hb:b[i]=255
  ·rw [yR (by simpa using hb),zR hi (by omega),if_neg (by simpa using hb)]
  ·rw [xD (by simpa using hb),if_pos (by simpa using hb)]
 ·rw [yR (by simp)]
theorem cY {b:List Int}:sT b=true↔b=List.replicate b.length 255:=by
 unfold sT
 rw [List.all_eq_true,List.eq_replicate_iff]
 simp
end Go.Proofs.YtplchdlgdjcojaaGreatDoor
end
