/-
  Texts of this seat, put together: rules, walks, plain laws.
  Conditions: none.
-/
import Derived.Test.YtplchdlgdjcojaaGreatDoorPK4
section
namespace Go.Proofs.YtplchdlgdjcojaaGreatDoor
open Go
set_option linter.unusedVariables false
set_option maxHeartbeats 4000000
set_option maxRecDepth 4000
theorem yM {c_p0 n_p1 A1 c1 gb1 r} (h:yJ c_p0 n_p1=some r):
    Fun Tryz.prog 31 [.pointer (some ⟨gb1,0,none⟩), .int .i64 n_p1] [.ro (SlL eu8 A1 c1 c_p0.L), .res (Box gb1 127 [.slice A1 c_p0.L.length c1, .int .i64 c_p0.At])] (fun v F=>∃ A2 c2,v= .int .i64 r.2∧F= [.ro (SlL eu8 A2 c2 r.1.L), .res (Box gb1 127 [.slice A2 r.1.L.length c2, .int .i64 r.1.At])]):=by
 refine Fun.intro Tryz.func31 rfl rfl rfl fun w R=>?_;refine .ab [0,1] rfl<|.seq<|.seq<|.bd h fun o1 hj1 h=>.cu 0 [0,1, .s 12 (.bool o1)] [] rfl rfl ?_ ?_
 ·refine .region<|.p rfl rfl<|.bd hj1 fun r1 hr1 hj1=>.cq 2 [1] [1] 0 (fA hr1) zUx rfl<|.n 2 rfl<|.gs 9 hj1 rfl (fun hj1=>?_) (fun hj1=>?_)
  ·cases hj1;exact .be rfl<|.hU rfl (zl [1] 0 rfl)
  cases hj1;exact .be rfl<|.hU rfl (zl [1] 0 rfl)
 refine .cb h rfl (fun h=>?_) (fun h=>?_)
 ·refine .ab [4] rfl ?_;cases h;exact .rv rfl rfl ⟨A1,c1,rfl,rfl⟩ (zk 2 1 [1] [1] 0 rfl)
 refine .sk<|.pr [0,1] rfl<|.seq<|.regionF mixed (by kernel_rfl)<|.n 3 rfl<|.lb 0 1 rfl<|.n 3 rfl<|.lb 1 1 rfl<|.bd h fun x1 hx1 h=>.ix1 hx1 0 rfl fun b1 ob1=>.ld ob1 0 0 rfl<|.beq rfl<|.pf [0,1,5] [] 1 rfl rfl<|.a 3 rfl<|.lb 1 1 rfl<|.n 3 rfl<|.sb 1 1 rfl<|.b [0,1,5] rfl<|.seq<|.seq<|.bd h fun o2 hj2 h=>.cu 0 [0,1,5, .s 36 (.bool o2)] [] rfl rfl ?_ ?_
 ·refine .region<|.n 3 rfl<|.gs 33 hj2 rfl (fun hj2=>?_) (fun hj2=>?_)
  ·refine .n 1 rfl<|.gOn rfl rfl<|.bd hj2 fun r2 hr2 hj2=>.cq 2 [1] [] 0 (fA hr2) zUx rfl ?_;cases hj2;exact .be rfl<|.hU rfl zw
  cases hj2;exact .be rfl<|.hU rfl zw
 refine .cb h rfl (fun h=>?_) (fun h=>?_)
 ·refine .seq<|.regionF mixed (by kernel_rfl)<|.n 4 rfl<|.lb 0 0 rfl<|.n 3 rfl<|.lb 1 0 rfl<|.bd h fun x2 hx2 h=>.ix1 hx2 1 rfl fun b2 ob2=>.ld ob2 0 0 rfl<|.beq rfl<|.pf [0,1,5] [] 1 rfl rfl<|.region<|.n 3 rfl<|.lb 1 0 rfl<|.n 3 rfl<|.sb 1 0 rfl<|.b [1,5] rfl<|.a 2 rfl<|.bd h fun q1 hq1 h=>.rem rfl rfl rfl hq1<|.b [4] rfl ?_;cases h;exact .rv rfl rfl ⟨A1,c1,rfl,rfl⟩ (zk 2 1 [1] [] 0 rfl)
 refine .sk<|.pr [1,5] rfl<|.a 2 rfl<|.bd h fun q2 hq2 h=>.rem rfl rfl rfl hq2<|.b [4] rfl ?_;cases h;exact .rv rfl rfl ⟨A1,c1,rfl,rfl⟩ (zk 2 1 [1] [] 0 rfl)
theorem zMj:Ent Tryz.prog 216:=en Tryz.func216 (by kernel_rfl)
noncomputable def oX (s_p0:ByteArray):Option Bool:=
  bnd ((bif decide ((s_p0.size:Int)<1) then (some true) else (bif decide ((s_p0.size:Int)>16) then (some true) else (bnd (eltS s_p0 0) fun y1=>bif decide (y1<97) then (some true) else (some (decide (y1>122))))):Option Bool)) fun o1=>bif o1 then (some false) else (bnd (yD (τ:=Bool ⊕ Unit) (fun (s1:Int)=>bif decide (s1<(s_p0.size:Int)) then (bnd ((bnd (eltS s_p0 s1) fun y2=>bif decide (y2≥97) then (bif decide (y2≤122) then (some false) else (bif decide (y2≥48) then (bif decide (y2≤57) then (some false) else (some (!(y2==45)))) else (some (!(y2==45))))) else (bif decide (y2≥48) then (bif decide (y2≤57) then (some false) else (some (!(y2==45)))) else (some (!(y2==45)))):Option Bool)) fun o4=>bif o4 then (some (.done (.inl false))) else (some (.next (IntKind.wrap .i64 (s1+1))))) else (some (.done (.inr ())))) 0) fun o2=>wP o2 fun o3=>some true)
theorem cC {s_p0 r} (h:oX s_p0=some r):
    Fun Tryz.prog 216 [.string s_p0] [] (Val (.bool r)):=by
 refine Fun.intro Tryz.func216 rfl rfl rfl fun w R=>?_;refine .ab [0] rfl<|.seq<|.seq<|.bd h fun o1 hj1 h=>.cu 0 [0, .s 21 (.bool o1)] [] rfl rfl ?_ ?_
 ·refine .region<|.n 4 rfl<|.gs 7 hj1 rfl (fun hj1=>?_) (fun hj1=>?_)
  ·cases hj1;exact .be rfl<|.hU rfl zw
  refine .n 5 rfl<|.gs 12 hj1 rfl (fun hj1=>?_) (fun hj1=>?_)
  ·cases hj1;exact .be rfl<|.hU rfl zw
  refine .n 1 rfl<|.gOn rfl rfl<|.bd hj1 fun y1 hy1 hj1=>.eltS rfl rfl rfl rfl rfl hy1<|.n 3 rfl<|.gs 17 hj1 rfl (fun hj1=>?_) (fun hj1=>?_)
  ·cases hj1;exact .be rfl<|.hU rfl zw
  refine .n 1 rfl<|.gOn rfl rfl<|.eltS rfl rfl rfl rfl rfl hy1 ?_;cases hj1;exact .be rfl<|.hU rfl zw
 refine .cb h rfl (fun h=>?_) (fun h=>?_)
 ·refine .ab [2] rfl ?_;cases h;exact .rv rfl rfl ⟨rfl,rfl⟩ zw
 refine .sk<|.pr [0] rfl<|.seq<|.ae rfl<|.bd h fun o2 hl1 h=>.cutJ 0 (fun (o3:Unit) (e3:Unit)=>[]) (fun o3 e3=>[]) rfl rfl (fun o3=>o2= .inr o3) ?_ ?_
 ·refine .block<|.loopQ hl1 0 (fun (s1:Int) (e2:Unit)=>[0, .s 3 (.int .i64 s1)]) (fun s1 e2=>[]) rfl rfl () (zb rfl) (fun _ w=>w) ?_;rintro s1 e2 st1 hm1 hd1 h1;refine .seq<|.ab [0,3,25] rfl<|.cb h1 rfl (fun h1=>?_) (fun h1=>?_)
  ·refine .sk<|.pr [0,3] rfl<|.seq<|.block<|.seq<|.bd h1 fun o4 hj2 h1=>.cu 0 [0,3, .s 56 (.bool o4)] [] rfl rfl ?_ ?_
   ·refine .region<|.n 2 rfl<|.bd hj2 fun y2 hy2 hj2=>.eltS rfl rfl rfl rfl rfl hy2<|.n 2 rfl<|.gs 32 hj2 rfl (fun hj2=>?_) (fun hj2=>?_)
    ·refine .n 2 rfl<|.gOn rfl rfl<|.eltS rfl rfl rfl rfl rfl hy2<|.n 3 rfl<|.gs 38 hj2 rfl (fun hj2=>?_) (fun hj2=>?_)
     ·cases hj2;exact .be rfl<|.hU rfl zw
     refine .n 2 rfl<|.gOn rfl rfl<|.eltS rfl rfl rfl rfl rfl hy2<|.n 2 rfl<|.gs 43 hj2 rfl (fun hj2=>?_) (fun hj2=>?_)
     ·refine .n 2 rfl<|.gOn rfl rfl<|.eltS rfl rfl rfl rfl rfl hy2<|.n 4 rfl<|.gs 50 hj2 rfl (fun hj2=>?_) (fun hj2=>?_)
      ·cases hj2;exact .be rfl<|.hU rfl zw
      refine .n 2 rfl<|.gOn rfl rfl<|.eltS rfl rfl rfl rfl rfl hy2 ?_;cases hj2;exact .be rfl<|.hU rfl zw
     refine .n 9 rfl<|.gOn rfl rfl<|.eltS rfl rfl rfl rfl rfl hy2 ?_;cases hj2;exact .be rfl<|.hU rfl zw
    refine .n 8 rfl<|.gOn rfl rfl<|.eltS rfl rfl rfl rfl rfl hy2<|.n 2 rfl<|.gs 43 hj2 rfl (fun hj2=>?_) (fun hj2=>?_)
    ·refine .n 2 rfl<|.gOn rfl rfl<|.eltS rfl rfl rfl rfl rfl hy2<|.n 4 rfl<|.gs 50 hj2 rfl (fun hj2=>?_) (fun hj2=>?_)
     ·cases hj2;exact .be rfl<|.hU rfl zw
     refine .n 2 rfl<|.gOn rfl rfl<|.eltS rfl rfl rfl rfl rfl hy2 ?_;cases hj2;exact .be rfl<|.hU rfl zw
    refine .n 9 rfl<|.gOn rfl rfl<|.eltS rfl rfl rfl rfl rfl hy2 ?_;cases hj2;exact .be rfl<|.hU rfl zw
   refine .cb h1 rfl (fun h1=>?_) (fun h1=>?_)
   ·refine .ab [2] rfl ?_;cases h1;cases hd1 _ rfl
    have h:some _=some _:=h;cases h;exact .rv rfl rfl ⟨rfl,rfl⟩ zw
   refine .skip<|.blkN<|.thenN<|.pr [0,3] rfl<|.region ?_;cases h1;exact .be rfl<|.ag () hm1 rfl zw
  refine .xq rfl ?_;cases h1;cases hd1 _ rfl
  exact .thenN<|.hereI () () rfl trivial zw
 rintro o3 e3 ho;subst ho;have h:=unR h;refine .ae rfl ?_;cases h;exact .rv rfl rfl ⟨rfl,rfl⟩ zw
theorem zME:Ent Tryz.prog 217:=en Tryz.func217 (by kernel_rfl)
noncomputable def pR (v_p0:zJ):Option Bool:=
  bnd ((bif decide (v_p0.Major≥0) then (bif decide (v_p0.Major≤999) then (bif decide (v_p0.Minor≥0) then (bif decide (v_p0.Minor≤999) then (bif decide (v_p0.Patch≥0) then (some (decide (v_p0.Patch≤999))) else (some false)) else (some false)) else (some false)) else (some false)) else (some false):Option Bool)) fun o1=>some o1
theorem eH {v_p0 r} (h:pR v_p0=some r):
    Fun Tryz.prog 217 [.agg #[.int .i64 v_p0.Major, .int .i64 v_p0.Minor, .int .i64 v_p0.Patch]] [] (Val (.bool r)):=by
 refine Fun.intro Tryz.func217 rfl rfl rfl fun w R=>?_;refine .seq<|.region<|.box rfl rfl fun g1=>.b [1] rfl<|.seq<|.bd h fun o1 hj1 h=>.cu 1 [.s 2 (.bool o1)] [] rfl rfl ?_ ?_
 ·refine .region<|.p rfl rfl<|.lb 0 0 rfl<|.n 2 rfl<|.gs 6 hj1 rfl (fun hj1=>?_) (fun hj1=>?_)
  ·refine .n 1 rfl<|.gOn rfl rfl<|.lb 0 0 rfl<|.n 3 rfl<|.gs 11 hj1 rfl (fun hj1=>?_) (fun hj1=>?_)
   ·refine .n 1 rfl<|.gOn rfl rfl<|.lb 1 0 rfl<|.n 3 rfl<|.gs 16 hj1 rfl (fun hj1=>?_) (fun hj1=>?_)
    ·refine .n 1 rfl<|.gOn rfl rfl<|.lb 1 0 rfl<|.n 3 rfl<|.gs 21 hj1 rfl (fun hj1=>?_) (fun hj1=>?_)
     ·refine .n 1 rfl<|.gOn rfl rfl<|.lb 2 0 rfl<|.n 3 rfl<|.gs 26 hj1 rfl (fun hj1=>?_) (fun hj1=>?_)
      ·refine .n 1 rfl<|.gOn rfl rfl<|.lb 2 0 rfl ?_;cases hj1;exact .be rfl<|.hU rfl (zl [] 1 rfl)
      cases hj1;exact .be rfl<|.hU rfl (zl [] 1 rfl)
     cases hj1;exact .be rfl<|.hU rfl (zl [] 1 rfl)
    cases hj1;exact .be rfl<|.hU rfl (zl [] 1 rfl)
   cases hj1;exact .be rfl<|.hU rfl (zl [] 1 rfl)
  cases hj1;exact .be rfl<|.hU rfl (zl [] 1 rfl)
 cases h;exact .rv rfl rfl ⟨rfl,rfl⟩ zw
theorem zML:Ent Tryz.prog 134:=en Tryz.func134 (by kernel_rfl)
noncomputable def pO (i_p0:zH):Option Bool:=
  bnd ((bnd (oX i_p0.Name) fun r1=>bif r1 then (bnd (pR i_p0.Version) fun r2=>bif r2 then (bif decide ((i_p0.Data.length:Int)≥1) then (some (decide ((i_p0.Data.length:Int)≤512))) else (some false)) else (some false)) else (some false):Option Bool)) fun o1=>some o1
theorem eO {i_p0 A1 c1 r} (h:pO i_p0=some r):
    Fun Tryz.prog 134 [.agg (yV i_p0 A1 c1).toArray] [.ro (SlL eu8 A1 c1 i_p0.Data)] (Val (.bool r)):=by
 refine Fun.intro Tryz.func134 rfl rfl rfl fun w R=>?_;refine .seq<|.region<|.box rfl rfl fun g1=>.b [1] rfl<|.seq<|.bd h fun o1 hj1 h=>.cu 2 [.s 2 (.bool o1)] [] rfl rfl ?_ ?_
 ·refine .region<|.p rfl rfl<|.lb 0 0 rfl<|.bd hj1 fun r1 hr1 hj1=>.cv [] (cC hr1) zMj rfl<|.p rfl rfl<|.gs 6 hj1 rfl (fun hj1=>?_) (fun hj1=>?_)
  ·refine .n 1 rfl<|.gOn rfl rfl<|.lb 1 0 rfl<|.gOn rfl rfl<|.bd hj1 fun r2 hr2 hj1=>.cv [] (eH hr2) zME rfl<|.n 2 rfl<|.gs 11 hj1 rfl (fun hj1=>?_) (fun hj1=>?_)
   ·refine .n 1 rfl<|.gOn rfl rfl<|.lb 4 0 rfl<|.n 4 rfl<|.gs 17 hj1 rfl (fun hj1=>?_) (fun hj1=>?_)
    ·refine .n 1 rfl<|.gOn rfl rfl<|.lb 4 0 rfl ?_;cases hj1;exact .be rfl<|.hU rfl (zl [] 2 rfl)
    cases hj1;exact .be rfl<|.hU rfl (zl [] 2 rfl)
   cases hj1;exact .be rfl<|.hU rfl (zl [] 2 rfl)
  cases hj1;exact .be rfl<|.hU rfl (zl [] 2 rfl)
 cases h;exact .rv rfl rfl ⟨rfl,rfl⟩ zw
theorem zWk:Ent Tryz.prog 135:=en Tryz.func135 (by kernel_rfl)
noncomputable def jH (i_p0:zH):Option zH:=
  bnd (app 1 ([]) i_p0.Data) fun l1=>some (⟨i_p0.Name,i_p0.Version,l1⟩:zH)
theorem zGN {i_p0 A1 c1 r} (h:jH i_p0=some r):
    Fun Tryz.prog 135 [.agg (yV i_p0 A1 c1).toArray] [.ro (SlL eu8 A1 c1 i_p0.Data)] (fun v F=>∃ A2 c2,v= .agg (yV r A2 c2).toArray∧F= [.ro (SlL eu8 A2 c2 r.Data)]):=by
 refine Fun.intro Tryz.func135 rfl rfl rfl fun w R=>?_;refine .seq<|.region<|.box rfl rfl fun g1=>.alloc rfl rfl fun g2=>.b [1,2] rfl<|.a 1 rfl<|.lb 4 1 rfl<|.asrt (fun _ w=>w.nilL eu8 5)<|.bd h fun l1 hl1 h=>.app (E:=eu8) hl1 rfl rfl rfl .z rfl rfl rfl rfl rfl rfl rfl rfl (iJ (.tail _ (.tail _ (.tail _ (.head _))))) rfl rfl fun A2 c2=>.p rfl rfl<|.sb 4 2 rfl<|.bf [1,2] [0,0,0] 1 rfl rfl<|.seq<|.region<|.lb 0 0 rfl<|.sb 0 2 rfl<|.bf [2] [0] 1 rfl rfl<|.asrt (fun _ w=>(w.sl [1] 0 rfl).meltL) ?_;cases h;exact .rt rfl Tryz.results135 (.cell rfl (.tail _ (.head _)) rfl .nil) rfl ⟨A2,c2,rfl,rfl⟩ (zk 1 2 [0] [] 0 rfl)
theorem zMq:Ent Tryz.prog 152:=en Tryz.func152 (by kernel_rfl)
noncomputable def qZ (s_p0:ByteArray):Option (List Int):=
  bnd (app 1 ([IntKind.wrap .u8 (s_p0.size:Int)]) (nA s_p0)) fun l1=>some l1
theorem cX {s_p0 r} (h:qZ s_p0=some r):
    Fun Tryz.prog 152 [.string s_p0] [] (fun v F=>∃ A1 c1,v= .slice A1 r.length c1∧F= [.res (zN eu8 5 A1 c1 r)]):=by
 refine Fun.intro Tryz.func152 rfl rfl rfl fun w R=>?_;refine .ab [0] rfl<|.a 3 rfl<|.bS rfl fun g1=>.p rfl rfl<|.asrt (fun _ w=>w.litL (E:=eu8) (e:=5) [IntKind.wrap .u8 (s_p0.size:Int)] rfl rfl)<|.bd h fun l1 hl1 h=>.app (E:=eu8) hl1 rfl rfl rfl .z rfl rfl rfl rfl rfl rfl rfl (by simp [nA,ByteArray.toList_eq]) (zWW s_p0) rfl rfl fun A1 c1=>.b [2] rfl ?_;cases h;exact .rv rfl rfl ⟨A1,c1,rfl,rfl⟩ zw
theorem zJr:Ent Tryz.prog 228:=en Tryz.func228 (by kernel_rfl)
noncomputable def qT (n_p0:Int):Option (List Int):=
  some ([IntKind.wrap .u8 (vY .i64 n_p0 8),IntKind.wrap .u8 n_p0])
theorem eA {n_p0 r} (h:qT n_p0=some r):
    Fun Tryz.prog 228 [.int .i64 n_p0] [] (fun v F=>∃ A1 c1,v= .slice A1 r.length c1∧F= [.res (zN eu8 5 A1 c1 r)]):=by
 unfold qT at h
 refine Fun.intro Tryz.func228 rfl rfl rfl fun w R=>?_;refine .ab [0] rfl<|.a 5 rfl<|.bS rfl fun g1=>.b [2] rfl<|.asrt (fun _ w=>w.litL (E:=eu8) (e:=5) [IntKind.wrap .u8 (vY .i64 n_p0 8),IntKind.wrap .u8 n_p0] rfl rfl) ?_;cases h;exact .rv rfl rfl ⟨(some ⟨g1,0,none⟩),([IntKind.wrap .u8 (vY .i64 n_p0 8),IntKind.wrap .u8 n_p0]:List Int).length,rfl,rfl⟩ zw
theorem zMt:Ent Tryz.prog 153:=en Tryz.func153 (by kernel_rfl)
noncomputable def uI (v_p0:zJ):Option (List Int):=
  bnd (qT v_p0.Major) fun r1=>bnd (qT v_p0.Minor) fun r2=>bnd (app 1 r1 r2) fun l1=>bnd (qT v_p0.Patch) fun r3=>bnd (app 1 l1 r3) fun l2=>some l2
theorem iG {v_p0 r} (h:uI v_p0=some r):
    Fun Tryz.prog 153 [.agg #[.int .i64 v_p0.Major, .int .i64 v_p0.Minor, .int .i64 v_p0.Patch]] [] (fun v F=>∃ A1 c1,v= .slice A1 r.length c1∧F= [.res (zN eu8 5 A1 c1 r)]):=by
 unfold uI at h
 refine Fun.intro Tryz.func153 rfl rfl rfl fun w R=>?_;refine .seq<|.region<|.box rfl rfl fun g1=>.b [1] rfl<|.seq<|.regionX (iN [0,5,12,16,28,32,11,23,27,39,43,44] .nil) _ mixed (by kernel_rfl) zw<|.yn 1 rfl<|.yx 0 0 rfl<|.yn 1 rfl<|.yl 1 0 rfl<|.yn 1 rfl<|.yl 2 0 rfl<|.xef<|.bd h fun r1 hr1 h=>.cr 2 [] [] 0 (eA hr1) zJr rfl fun A1 c1=>.xk (zl [] 1 rfl)<|.xef<|.bd h fun r2 hr2 h=>.cr 3 [] [] 0 (eA hr2) zJr rfl fun A2 c2=>.xk (zl [] 2 rfl)<|.xef<|.asrt (fun _ w=>w.meltL)<|.bd h fun l1 hl1 h=>.app (E:=eu8) hl1 rfl rfl rfl (.s .z) rfl rfl rfl rfl rfl rfl rfl rfl (iJ (.head _)) rfl rfl fun A3 c3=>.xk (zl [] 2 rfl)<|.xef<|.bd h fun r3 hr3 h=>.cr 4 [] [] 0 (eA hr3) zJr rfl fun A4 c4=>.xk (zl [] 3 rfl)<|.xef<|.asrt (fun _ w=>w.meltL)<|.bd h fun l2 hl2 h=>.app (E:=eu8) hl2 rfl rfl rfl (.s .z) rfl rfl rfl rfl rfl rfl rfl rfl (iJ (.head _)) rfl rfl fun A5 c5=>.xk (zl [] 3 rfl)<|.yn 1 rfl<|.xdone<|.thenN<|.pf [2] [0] 3 rfl rfl ?_;cases h;exact .rv rfl rfl ⟨A5,c5,rfl,rfl⟩ zw
theorem zSu:Ent Tryz.prog 150:=en Tryz.func150 (by kernel_rfl)
noncomputable def pN (i_p0:zH):Option (List Int):=
  bnd (qZ i_p0.Name) fun r1=>bnd (uI i_p0.Version) fun r2=>bnd (app 1 r1 r2) fun l1=>bnd (qT (i_p0.Data.length:Int)) fun r3=>bnd (app 1 l1 r3) fun l2=>bnd (app 1 l2 i_p0.Data) fun l3=>some l3
theorem zAL {i_p0 A1 c1 r} (h:pN i_p0=some r):
    Fun Tryz.prog 150 [.agg (yV i_p0 A1 c1).toArray] [.ro (SlL eu8 A1 c1 i_p0.Data)] (fun v F=>∃ A2 c2,v= .slice A2 r.length c2∧F= [.res (zN eu8 5 A2 c2 r)]):=by
 unfold pN at h
 refine Fun.intro Tryz.func150 rfl rfl rfl fun w R=>?_;refine .seq<|.region<|.box rfl rfl fun g1=>.b [1] rfl<|.seq<|.regionX (iN [0,5,12,16,11,23,27,28] .nil) _ mixed (by kernel_rfl) zw<|.yn 1 rfl<|.yx 0 0 rfl<|.yn 1 rfl<|.yl 1 0 rfl<|.xef<|.bd h fun r1 hr1 h=>.cr 3 [] [] 0 (cX hr1) zMq rfl fun A2 c2=>.xk (zl [] 1 rfl)<|.xef<|.bd h fun r2 hr2 h=>.cr 4 [] [] 0 (iG hr2) zMt rfl fun A3 c3=>.xk (zl [] 2 rfl)<|.xef<|.asrt (fun _ w=>w.meltL)<|.bd h fun l1 hl1 h=>.app (E:=eu8) hl1 rfl rfl rfl (.s .z) rfl rfl rfl rfl rfl rfl rfl rfl (iJ (.head _)) rfl rfl fun A4 c4=>.xk (zl [] 2 rfl)<|.yn 1 rfl<|.xdone<|.thenN<|.pf [1,3] [0] 1 rfl rfl<|.a 2 rfl<|.lb 4 1 rfl<|.p rfl rfl<|.bd h fun r3 hr3 h=>.cr 4 [] [] 0 (eA hr3) zJr rfl fun A5 c5=>.asrt (fun _ w=>w.meltL)<|.bd h fun l2 hl2 h=>.app (E:=eu8) hl2 rfl rfl rfl (.s .z) rfl rfl rfl rfl rfl rfl rfl rfl (iJ (.head _)) rfl rfl fun A6 c6=>.bf [1,3] [0] 1 rfl rfl<|.a 2 rfl<|.lb 4 1 rfl<|.bd h fun l3 hl3 h=>.app (E:=eu8) hl3 rfl rfl rfl .z rfl rfl rfl rfl rfl rfl rfl rfl (iJ (.tail _ (.tail _ (.head _)))) rfl rfl fun A7 c7=>.bf [2] [0] 2 rfl rfl ?_;cases h;exact .rv rfl rfl ⟨A7,c7,rfl,rfl⟩ zw
theorem zSr:Ent Tryz.prog 154:=en Tryz.func154 (by kernel_rfl)
noncomputable def pT (b_p0:(List Int)):Option Int:=
  bnd (yD (τ:=Int) (fun (s1:Int × Int)=>bif decide (s1.2<(b_p0.length:Int)) then (bnd (elt b_p0 s1.2) fun x1=>bnd (yD (τ:=Int) (fun (s2:Int × Int)=>bif decide (s2.2<8) then (bif ((s2.1.tmod 2)==1) then (some (.next (fL .u32 (IntKind.wrap .u32 (s2.1.tdiv 2)) 3988292384,IntKind.wrap .i64 (s2.2+1)))) else (some (.next (IntKind.wrap .u32 (s2.1.tdiv 2),IntKind.wrap .i64 (s2.2+1))))) else (some (.done s2.1))) (fL .u32 s1.1 (IntKind.wrap .u32 x1),0)) fun o2=>some (.next (o2,IntKind.wrap .i64 (s1.2+1)))) else (some (.done s1.1))) (4294967295,0)) fun o1=>some (IntKind.wrap .u32 (4294967295 - o1))
theorem zAN {b_p0 A1 c1 r} (h:pT b_p0=some r):
    Fun Tryz.prog 154 [.slice A1 b_p0.length c1] [.ro (SlL eu8 A1 c1 b_p0)] (Val (.int .u32 r)):=by
 refine Fun.intro Tryz.func154 rfl rfl rfl fun w R=>?_;refine .ab [0] rfl<|.ae rfl<|.seq<|.ae rfl<|.bd h fun o1 hl1 h=>.cu 1 [.s 3 (.int .u32 o1)] [] rfl rfl ?_ ?_
 ·refine .block<|.loopQ hl1 0 (fun (s1:Int × Int) (e1:Unit)=>[0, .s 3 (.int .u32 s1.1), .s 4 (.int .i64 s1.2)]) (fun s1 e1=>[]) rfl rfl () (zb rfl) (fun _ w=>w) ?_;rintro s1 e1 st1 hm1 hd1 h1;refine .seq<|.ab [0,3,4,10] rfl<|.cb h1 rfl (fun h1=>?_) (fun h1=>?_)
  ·refine .sk<|.pr [0,3,4] rfl<|.seq<|.block<|.a 3 rfl<|.bd h1 fun x1 hx1 h1=>.ix1 hx1 0 rfl fun b1 ob1=>.ld ob1 0 0 rfl<|.bf [0,3,4] [] 1 rfl rfl<|.ae rfl<|.bd h1 fun o2 hl2 h1=>.selfThen<|.cu 0 [0, .s 3 (.int .u32 o2),4] [] rfl rfl ?_ ?_
   ·refine .block<|.loopQ hl2 0 (fun (s2:Int × Int) (e3:Unit)=>[0, .s 3 (.int .u32 s2.1),4, .s 5 (.int .i64 s2.2)]) (fun s2 e3=>[]) rfl rfl () (zb rfl) (fun _ w=>w) ?_;rintro s2 e3 st2 hm2 hd2 h2;refine .seq<|.ab [0,3,4,5,21] rfl<|.cb h2 rfl (fun h2=>?_) (fun h2=>?_)
    ·refine .sk<|.pr [0,3,4,5] rfl<|.seq<|.block<|.ab [0,3,4,5,6] rfl<|.ab [0,3,4,5,6] rfl<|.ab [0,3,4,5,29] rfl<|.cb h2 rfl (fun h2=>?_) (fun h2=>?_)
     ·refine .region<|.n 3 rfl<|.done<|.blkN<|.thenN<|.pr [0,3,4,5] rfl<|.region ?_;cases h2;exact .be rfl<|.ag () hm2 rfl zw
     refine .skip<|.blkN<|.thenN<|.pr [0,3,4,5] rfl<|.region ?_;cases h2;exact .be rfl<|.ag () hm2 rfl zw
    refine .xq rfl ?_;cases h2;cases hd2 _ rfl
    exact .thenN<|.hU rfl zw
   refine .blkN<|.thenN<|.region ?_;cases h1;exact .be rfl<|.ag () hm1 rfl zw
  refine .xq rfl ?_;cases h1;cases hd1 _ rfl
  exact .thenN<|.hU rfl (zl [] 1 rfl)
 refine .ab [2] rfl ?_;cases h;exact .rv rfl rfl ⟨rfl,rfl⟩ zw
theorem zSw:Ent Tryz.prog 136:=en Tryz.func136 (by kernel_rfl)
noncomputable def jO (i_p0:zH):Option Int:=
  bnd (pO i_p0) fun r1=>bif !r1 then (some 0) else (bnd (pN i_p0) fun r2=>bnd (pT r2) fun r3=>some r3)
theorem zDM {i_p0 A1 c1 r} (h:jO i_p0=some r):
    Fun Tryz.prog 136 [.agg (yV i_p0 A1 c1).toArray] [.ro (SlL eu8 A1 c1 i_p0.Data)] (Val (.int .u32 r)):=by
 refine Fun.intro Tryz.func136 rfl rfl rfl fun w R=>?_;refine .seq<|.region<|.box rfl rfl fun g1=>.b [1] rfl<|.seq<|.seq<|.region<|.lb 0 0 rfl<|.bd h fun r1 hr1 h=>.cv [1] (eO hr1) zML rfl<|.b [1,5] rfl<|.cb h rfl (fun h=>?_) (fun h=>?_)
 ·refine .abf [2] [] 2 rfl rfl ?_;cases h;exact .rv rfl rfl ⟨rfl,rfl⟩ zw
 refine .sk<|.pr [1] rfl<|.seq<|.region<|.lb 0 0 rfl<|.bd h fun r2 hr2 h=>.cr 3 [1] [] 0 (zAL hr2) zSu rfl fun A2 c2=>.asrt (fun _ w=>w.meltL)<|.bd h fun r3 hr3 h=>.cv [0] (zAN hr3) zSr rfl<|.bf [2] [] 3 rfl rfl ?_;cases h;exact .rv rfl rfl ⟨rfl,rfl⟩ zw
theorem zWz:Ent Tryz.prog 56:=en Tryz.func56 (by kernel_rfl)
noncomputable def fV (i_p0:zH):Option (zB × Int):=
  bnd (pO i_p0) fun r1=>bif !r1 then (some ((⟨⟨#[]⟩,(⟨(⟨(⟨⟨#[]⟩,(⟨0,0,0⟩:zJ), []⟩:zH),0⟩:yE),(⟨(⟨⟨#[]⟩,(⟨0,0,0⟩:zJ), []⟩:zH),0⟩:yE)⟩:(qO yE)),0,0,false⟩:zB),1)) else (bnd (jH i_p0) fun r2=>bnd (jO i_p0) fun r3=>some ((⟨i_p0.Name,(⟨(⟨r2,r3⟩:yE),(⟨(⟨⟨#[]⟩,(⟨0,0,0⟩:zJ), []⟩:zH),0⟩:yE)⟩:(qO yE)),0,0,false⟩:zB),0))
theorem zKQ {i_p0 A1 c1 r} (h:fV i_p0=some r):
    Fun Tryz.prog 56 [.agg (yV i_p0 A1 c1).toArray] [.ro (SlL eu8 A1 c1 i_p0.Data)] (fun v F=>∃ A2 c2 A3 c3,v= .tuple #[.agg (zL r.1 A2 c2 A3 c3).toArray, .int .i64 r.2]∧F= [.ro (SlL eu8 A2 c2 r.1.Slots.e0.Image.Data), .ro (SlL eu8 A3 c3 r.1.Slots.e1.Image.Data)]):=by
 refine Fun.intro Tryz.func56 rfl rfl rfl fun w R=>?_;refine .seq<|.region<|.box rfl rfl fun g1=>.alloc rfl rfl fun g2=>.b [1,2] rfl<|.seq<|.seq<|.region<|.lb 0 1 rfl<|.bd h fun r1 hr1 h=>.cv [2] (eO hr1) zML rfl<|.b [1,2,7] rfl<|.cb h rfl (fun h=>?_) (fun h=>?_)
 ·refine .a 1 rfl<|.sb 0 0 rfl<|.bf [2,3] [0] 2 rfl rfl<|.asrt (fun _ w=>w.nilSl (cod eu8))<|.asrt (fun _ w=>w.nilSl (cod eu8)) ?_;cases h;exact .rt rfl Tryz.results56 (.cell rfl (.tail _ (.tail _ (.head _))) rfl (.tmp rfl .nil)) rfl ⟨none,0,none,0,rfl,rfl⟩ (zk 2 3 [0,0] [] 0 rfl)
 refine .sk<|.pr [1,2] rfl<|.a 1 rfl<|.lb 0 1 rfl<|.p rfl rfl<|.alloc rfl rfl fun g3=>.sb 0 0 rfl<|.b [1,2,4] rfl<|.seq<|.regionX (iN [1,8,20,7,14,16,24,31] .nil) _ mixed (by kernel_rfl) (zl [] 1 rfl)<|.yx 0 2 rfl<|.yl 0 1 rfl<|.yn 1 rfl<|.xef<|.bd h fun r2 hr2 h=>.cr 5 [3] [] 0 (zGN hr2) zWk rfl fun A2 c2=>.xk (zl [] 2 rfl)<|.bd h fun r3 hr3 h=>.xqc (fun _ h=>h) (zDM hr3) zSw rfl rfl rfl rfl (za [2] rfl)<|.yn 2 rfl<|.xef<|.sb 1 1 rfl<|.xk (zl [] 2 rfl)<|.xdone<|.thenN<|.pf [2,4] [0,0,0] 2 rfl rfl<|.seq<|.region<|.lb 0 0 rfl<|.sb 0 2 rfl<|.bf [2,3] [0] 1 rfl rfl<|.asrt (fun _ w=>w.nilSl (cod eu8)) ?_;cases h;exact .rt rfl Tryz.results56 (.cell rfl (.tail _ (.head _)) rfl (.tmp rfl .nil)) rfl ⟨A2,c2,none,0,rfl,rfl⟩ (zk 2 3 [2,0] [] 0 rfl)
theorem zWU:Ent Tryz.prog 12:=en Tryz.func12 (by kernel_rfl)
noncomputable def sU (c_p0:wH) (most:Int):Option (wH × (List zB)):=
  bnd (jL) fun r1=>bnd (yJ c_p0 most) fun r2=>bnd (sub r1 0 (IntKind.wrap .i64 (1+r2.2))) fun l1=>bnd (yD (τ:=List zB × List Int × Int) (fun (s1:List zB × Int × List Int × Int)=>bif decide (s1.2.1<(l1.length:Int)) then (bnd (elt l1 s1.2.1) fun x1=>bnd (yJ (⟨s1.2.2.1,s1.2.2.2⟩:wH) 5) fun r3=>bnd (yJ r3.1 4) fun r4=>bnd (fV (⟨x1,(⟨IntKind.wrap .i64 (1+(IntKind.wrap .i64 (r3.2.tdiv 4))),0,0⟩:zJ), [IntKind.wrap .u8 r4.2]⟩:zH)) fun r5=>bnd (app 184 s1.1 [r5.1]) fun l2=>some (.next (l2,IntKind.wrap .i64 (s1.2.1+1),r4.1.L,r4.1.At))) else (some (.done (s1.1,s1.2.2.1,s1.2.2.2)))) ([],0,r2.1.L,r2.1.At)) fun o1=>some ((⟨o1.2.1,o1.2.2⟩:wH),o1.1)
theorem bP {c_p0 most A1 c1 gb1 r} (h:sU c_p0 most=some r):
    Fun Tryz.prog 12 [.pointer (some ⟨gb1,0,none⟩), .int .i64 most] [.ro (SlL eu8 A1 c1 c_p0.L), .res (Box gb1 127 [.slice A1 c_p0.L.length c1, .int .i64 c_p0.At])] (fun v F=>∃ A2 c2 A3 c3,v= .slice A3 r.2.length c3∧F= [.ro (SlL eu8 A2 c2 r.1.L), .res (Box gb1 127 [.slice A2 r.1.L.length c2, .int .i64 r.1.At]), .res (xN (yL zF) 64 A3 c3 r.2)]):=by
 refine Fun.intro Tryz.func12 rfl rfl rfl fun w R=>?_;refine .ab [0,1] rfl<|.ae rfl<|.seq<|.seq<|.region<|.bd h fun r1 hr1 h=>.cr 3 [] [] 0 (zGR hr1) zWx rfl fun A2 c2=>.n 2 rfl<|.bd h fun r2 hr2 h=>.cr 4 [2] [2] 0 (yM hr2) jS rfl fun A3 c3=>.p rfl rfl<|.asrt (fun _ w=>(w.sl [2] 0 rfl).meltL)<|.bd h fun l1 hl1 h=>.sub (E:=(cod zVf)) rfl rfl (.head _) rfl rfl rfl rfl rfl rfl rfl hl1 fun A4 c4=>.bf [0,5,15,16,17] [0,1,1] 2 rfl rfl<|.asrt (fun _ w=>w.nilC (yL zF) 64)<|.bd h fun o1 hl1 h=>.cutK 4 (fun (e2:Option Addr × Nat × Option Addr × Nat)=>[.s 5 (.slice e2.1 o1.1.length e2.2.1)]) (fun e2=>[.ro (SlL eu8 e2.2.2.1 e2.2.2.2 o1.2.1), .res (xN (yL zF) 64 e2.1 e2.2.1 o1.1), .res (Box gb1 127 [.slice e2.2.2.1 o1.2.1.length e2.2.2.2, .int .i64 o1.2.2])]) rfl rfl ?_ ?_
 ·refine .block<|.loopQ hl1 4 (fun (s1:List zB × Int × List Int × Int) (e1:Option Addr × Nat × Option Addr × Nat)=>[0, .s 5 (.slice e1.1 s1.1.length e1.2.1),15,16, .s 17 (.int .i64 s1.2.1)]) (fun s1 e1=>[.ro (SlL eu8 e1.2.2.1 e1.2.2.2 s1.2.2.1), .res (xN (yL zF) 64 e1.1 e1.2.1 s1.1),1, .res (Box gb1 127 [.slice e1.2.2.1 s1.2.2.1.length e1.2.2.2, .int .i64 s1.2.2.2])]) rfl rfl (none,0,A3,c3) (zb rfl) (zl [2] 0 rfl) ?_;rintro s1 ⟨A5,c5,A6,c6⟩ st1 hm1 hd1 h1;refine .ae rfl<|.seq<|.cb h1 rfl (fun h1=>?_) (fun h1=>?_)
  ·refine .sk<|.pr [0,5,15,16,17] rfl<|.seq<|.block<|.seq<|.region<|.bd h1 fun x1 hx1 h1=>.ix1 hx1 2 rfl fun b1 ob1=>.ld ob1 0 0 rfl<|.bf [0,5,7,15,16,17] [] 1 rfl rfl<|.a 2 rfl<|.bd h1 fun r3 hr3 h1=>.cr 5 [1] [3] 0 (yM hr3) jS rfl fun A9 c9=>.n 4 rfl<|.bd h1 fun r4 hr4 h1=>.cr 6 [1] [1] 0 (yM hr4) jS rfl fun A10 c10=>.p rfl rfl<|.bS rfl fun g1=>.p rfl rfl<|.asrt (fun _ w=>w.litL (E:=eu8) (e:=5) [IntKind.wrap .u8 r4.2] rfl rfl)<|.asrt (fun _ w=>w.meltL)<|.bd h1 fun r5 hr5 h1=>.ct 9 [0] [] 0 (zKQ hr5) zWz rfl fun A11 c11 A12 c12=>.n 3 rfl<|.alloc rfl rfl fun g2=>.sb 0 0 rfl<|.bf [0,5,8,15,16,17] [0,0,0,1,1] 3 rfl rfl<|.region<|.p rfl rfl<|.lb 0 0 rfl<|.bS rfl fun g3=>.bd h1 fun l2 hl2 h1=>.appC (E:=(yL zF)) hl2 rfl rfl rfl (.s (.s (.s (.s (.s (.s .z)))))) rfl rfl rfl rfl rfl rfl rfl rfl (zDN (ls:=zF) [(r5.1,((A11,c11),((A12,c12),())))] (.head _) rfl rfl rfl ⟨(zm 2 rfl),(zm 3 rfl),trivial⟩) rfl rfl fun A13 c13=>.p rfl rfl<|.done<|.blkN<|.thenN<|.pf [0,5,15,16,17] [0] 4 rfl rfl<|.region ?_;cases h1;exact .be rfl<|.ag (A13,c13,A10,c10) hm1 rfl (zl [1,0,1] 0 rfl)
  refine .xq rfl ?_;cases h1;cases hd1 _ rfl
  exact .thenN<|.hE (A5,c5,A6,c6) rfl (zl [0,0] 1 rfl)
 rintro ⟨A7,c7,A8,c8⟩;refine .ab [4] rfl ?_;cases h;exact .rv rfl rfl ⟨A8,c8,A7,c7,rfl,rfl⟩ (zk 3 1 [2] [2,1] 0 rfl)
theorem zWt:Ent Tryz.prog 13:=en Tryz.func13 (by kernel_rfl)
noncomputable def jF (c_p0:wH) (l_p1:(List zB)):Option (wH × (List zX)):=
  bnd (yJ c_p0 4) fun r1=>bnd (yD (τ:=List zX × List Int × Int) (fun (s1:List zX × Int × List Int × Int)=>bnd ((bif decide (s1.2.1>0) then (some (decide ((l_p1.length:Int)>1))) else (some false):Option Bool)) fun o2=>bif o2 then (bnd (yJ (⟨s1.2.2.1,s1.2.2.2⟩:wH) (l_p1.length:Int)) fun r2=>bnd (yJ r2.1 (l_p1.length:Int)) fun r3=>bnd (elt l_p1 r2.2) fun x1=>bnd (elt l_p1 r3.2) fun x2=>bnd (yJ r3.1 2) fun r4=>bif (r2.2 != r3.2) then (bnd (app 80 s1.1 [(⟨x1.Name,(⟨2,0,0⟩:zJ),x2.Name,(⟨IntKind.wrap .i64 (1+r4.2),0,0⟩:zJ)⟩:zX)]) fun l1=>some (.next (l1,IntKind.wrap .i64 (s1.2.1 - 1),r4.1.L,r4.1.At))) else (some (.next (s1.1,IntKind.wrap .i64 (s1.2.1 - 1),r4.1.L,r4.1.At)))) else (some (.done (s1.1,s1.2.2.1,s1.2.2.2)))) ([],r1.2,r1.1.L,r1.1.At)) fun o1=>some ((⟨o1.2.1,o1.2.2⟩:wH),o1.1)
theorem zGU {c_p0 l_p1 A1 c1 A2 c2 gb1 r} (h:jF c_p0 l_p1=some r):
    Fun Tryz.prog 13 [.pointer (some ⟨gb1,0,none⟩), .slice A2 l_p1.length c2] [.ro (SlL eu8 A1 c1 c_p0.L), .ro (Sl (yL zF) A2 c2 l_p1), .res (Box gb1 127 [.slice A1 c_p0.L.length c1, .int .i64 c_p0.At])] (fun v F=>∃ A3 c3 A4 c4,v= .slice A4 r.2.length c4∧F= [.ro (SlL eu8 A3 c3 r.1.L), .res (Box gb1 127 [.slice A3 r.1.L.length c3, .int .i64 r.1.At]), .res (zN zQ 123 A4 c4 r.2)]):=by
 refine Fun.intro Tryz.func13 rfl rfl rfl fun w R=>?_;refine .ab [0,1] rfl<|.ae rfl<|.seq<|.a 1 rfl<|.bd h fun r1 hr1 h=>.cr 4 [1] [2] 0 (yM hr1) jS rfl fun A3 c3=>.bf [0,1,5,6] [0,0] 1 rfl rfl<|.asrt (fun _ w=>w.nilL zQ 123)<|.bd h fun o1 hl1 h=>.cutK 4 (fun (e2:Option Addr × Nat × Option Addr × Nat)=>[.s 5 (.slice e2.1 o1.1.length e2.2.1)]) (fun e2=>[.ro (SlL eu8 e2.2.2.1 e2.2.2.2 o1.2.1), .res (zN zQ 123 e2.1 e2.2.1 o1.1), .res (Box gb1 127 [.slice e2.2.2.1 o1.2.1.length e2.2.2.2, .int .i64 o1.2.2])]) rfl rfl ?_ ?_
 ·refine .block<|.loopQ hl1 3 (fun (s1:List zX × Int × List Int × Int) (e1:Option Addr × Nat × Option Addr × Nat)=>[0,1, .s 5 (.slice e1.1 s1.1.length e1.2.1), .s 6 (.int .i64 s1.2.1)]) (fun s1 e1=>[.ro (SlL eu8 e1.2.2.1 e1.2.2.2 s1.2.2.1), .res (zN zQ 123 e1.1 e1.2.1 s1.1), .res (Box gb1 127 [.slice e1.2.2.1 s1.2.2.1.length e1.2.2.2, .int .i64 s1.2.2.2])]) rfl rfl (none,0,A3,c3) (zb rfl) (zl [1] 0 rfl) ?_;rintro s1 ⟨A4,c4,A5,c5⟩ st1 hm1 hd1 h1;refine .seq<|.seq<|.bd h1 fun o2 hj1 h1=>.cu 0 [0,1,5,6, .s 18 (.bool o2)] [] rfl rfl ?_ ?_
  ·refine .region<|.n 3 rfl<|.gs 14 hj1 rfl (fun hj1=>?_) (fun hj1=>?_)
   ·cases hj1;exact .be rfl<|.hU rfl zw
   cases hj1;exact .be rfl<|.hU rfl zw
  refine .cb h1 rfl (fun h1=>?_) (fun h1=>?_)
  ·refine .sk<|.pr [0,1,5,6] rfl<|.seq<|.block<|.a 3 rfl<|.bd h1 fun r2 hr2 h1=>.cr 5 [1] [2] 0 (yM hr2) jS rfl fun A8 c8=>.n 3 rfl<|.bd h1 fun r3 hr3 h1=>.cr 6 [1] [1] 0 (yM hr3) jS rfl fun A9 c9=>.bf [0,1,5,6,7,8] [0,0] 2 rfl rfl<|.seq<|.bd h1 fun x1 hx1 h1=>.openN (zm 3 rfl) hx1 fun b1 ob1 ex1 hqb1=>?_;obtain ⟨⟨A10,c10⟩,⟨⟨A11,c11⟩,_⟩⟩:=ex1;refine .nm 7 rfl<|.bd h1 fun x2 hx2 h1=>.openN (zm 6 rfl) hx2 fun b2 ob2 ex2 hqb2=>?_;obtain ⟨⟨A12,c12⟩,⟨⟨A13,c13⟩,_⟩⟩:=ex2;refine .nm 10 rfl<|.bd h1 fun r4 hr4 h1=>.regionX (iN [0,4,8,12,16,20,24,28,32,36,40,44] (.alt (iN [51,52,56,60] (iN [67] (iN [71] .nil))) (iN [67] (iN [51,52,56,60] (iN [71] .nil))))) _ mixed (by kernel_rfl) (zl [0,0,0,0,0,0,0] 1 rfl)<|.shareK (Y:=?Ynd1_0) 8 (fun (e:Nat × Option Addr × Nat)=>[0,1,5,6,7,8, .s 9 (.pointer (some ⟨e.1,0,none⟩)), .s 29 (.slice A2 l_p1.length c2), .s 30 (.int .i64 r2.2), .s 31 (.pointer (some ⟨b1,ob1,none⟩)), .s 32 (.pointer (some ⟨b1,ob1,none⟩)), .s 33 (.string x1.Name), .s 34 (.agg #[.int .i64 2, .int .i64 0, .int .i64 0]), .s 35 (.slice A2 l_p1.length c2), .s 36 (.int .i64 r3.2), .s 37 (.pointer (some ⟨b2,ob2,none⟩)), .s 38 (.pointer (some ⟨b2,ob2,none⟩)), .s 39 (.string x2.Name), .s 40 (.pointer (some ⟨gb1,0,none⟩)), .s 41 (.int .i64 r4.2), .s 42 (.int .i64 (IntKind.wrap .i64 (1+r4.2))), .s 43 (.agg #[.int .i64 (IntKind.wrap .i64 (1+r4.2)), .int .i64 0, .int .i64 0]), .s 44 (.agg #[.string x1.Name, .int .i64 2, .int .i64 0, .int .i64 0, .string x2.Name, .int .i64 (IntKind.wrap .i64 (1+r4.2)), .int .i64 0, .int .i64 0])]) (fun e=>[.res (Box e.1 123 [.string (⟨#[]⟩), .int .i64 0, .int .i64 0, .int .i64 0, .string (⟨#[]⟩), .int .i64 0, .int .i64 0, .int .i64 0]), .ro (SlL eu8 e.2.1 e.2.2 r4.1.L), .res (Box gb1 127 [.slice e.2.1 r4.1.L.length e.2.2, .int .i64 r4.1.At]),0,1,2,3,4,5,6]) rfl rfl (fun hnd1_0=>?mnd1_0) ?tnd1_0
   case mnd1_0=>
    refine .yn 2 rfl<|.xfl (fun _ h=>h) (Rd.ixN hqb1 hx1 rfl rfl rfl rfl rfl rfl rfl) rfl<|.yn 1 rfl<|.xfl (fun _ h=>h) (Rd.load ob1 0 rfl (zm 3 rfl) rfl rfl) rfl<|.yn 3 rfl<|.xfl (fun _ h=>h) (Rd.ixN hqb2 hx2 rfl rfl rfl rfl rfl rfl rfl) rfl<|.yn 1 rfl<|.xfl (fun _ h=>h) (Rd.load ob2 0 rfl (.head _) rfl rfl) rfl<|.yn 1 rfl<|.xalt ?_ ?_
    ·refine .xef<|.cr 11 [7] [7] 0 (yM hr4) jS rfl fun A14 c14=>.xk (zl [] 2 rfl)<|.yn 3 rfl<|.xef<|.alloc rfl rfl fun g1=>.xk (zl [] 3 rfl) ?_;refine hnd1_0 _ _ (g1,A14,c14) ?_ ?_
     ·exact ⟨rfl,rfl,rfl,rfl,rfl,rfl,rfl,rfl,rfl,rfl,rfl,rfl,rfl,rfl,rfl,rfl,rfl,rfl,rfl,rfl,rfl,rfl,rfl,trivial⟩
     exact fun _ w=>w
    refine .xef<|.alloc rfl rfl fun g1=>.xk (zl [1,1,1,1,1,1,1] 2 rfl)<|.xef<|.cr 12 [8] [8] 0 (yM hr4) jS rfl fun A14 c14=>.xk (zl [] 3 rfl)<|.yn 3 rfl ?_;refine hnd1_0 _ _ (g1,A14,c14) ?_ ?_
    ·exact ⟨rfl,rfl,rfl,rfl,rfl,rfl,rfl,rfl,rfl,rfl,rfl,rfl,rfl,rfl,rfl,rfl,rfl,rfl,rfl,rfl,rfl,rfl,rfl,trivial⟩
    exact fun _ w=>(w.sl [2] 0 rfl)
   case tnd1_0=>
    rintro ⟨g1,A14,c14⟩;refine .nm 12 rfl<|.xef<|.sb 0 0 rfl<|.xk (zl [] 3 rfl)<|.xdone<|.thenN<|.pf [0,1,5,6,7,8,9] [0,0,0] 7 rfl rfl<|.ab [0,1,5,6,9,47] rfl<|.cb h1 rfl (fun h1=>?_) (fun h1=>?_)
    ·refine .region<|.p rfl rfl<|.lb 0 0 rfl<|.bS rfl fun g2=>.bd h1 fun l1 hl1 h1=>.app (E:=zQ) hl1 rfl rfl rfl (.s (.s (.s (.s .z)))) rfl rfl rfl rfl rfl rfl rfl rfl (dS (.head _) rfl rfl) rfl rfl fun A15 c15=>.p rfl rfl<|.done<|.blkN<|.thenN<|.pf [0,1,5,6] [0] 2 rfl rfl<|.region ?_;cases h1;exact .be rfl<|.ag (A15,c15,A14,c14) hm1 rfl (zl [1] 0 rfl)
    refine .skip<|.blkN<|.thenN<|.pf [0,1,5,6] [] 1 rfl rfl<|.region ?_;cases h1;exact .be rfl<|.ag (A4,c4,A14,c14) hm1 rfl (zl [0,1] 0 rfl)
  refine .xq rfl ?_;cases h1;cases hd1 _ rfl
  exact .thenN<|.hE (A4,c4,A5,c5) rfl (zl [0,0,0] 1 rfl)
 rintro ⟨A6,c6,A7,c7⟩;refine .ab [4] rfl ?_;cases h;exact .rv rfl rfl ⟨A7,c7,A6,c6,rfl,rfl⟩ (zk 3 1 [2] [2,1] 0 rfl)
theorem zVG:Ent Tryz.prog 227:=en Tryz.func227 (by kernel_rfl)
noncomputable def jB (l_p0:(List zX)):Option Bool:=
  bif decide ((l_p0.length:Int)>16) then (some false) else (bnd (yD (τ:=Bool ⊕ Unit) (fun (s1:Int)=>bif decide (s1<(l_p0.length:Int)) then (bnd ((bnd (elt l_p0 s1) fun x1=>bnd (oX x1.Component) fun r1=>bif !r1 then (some true) else (bnd (oX x1.On) fun r2=>bif !r2 then (some true) else (bif (x1.Component.toList==x1.On.toList) then (some true) else (bnd (pR x1.From) fun r3=>bif !r3 then (some true) else (bnd (pR x1.At) fun r4=>some (!r4))))):Option Bool)) fun o3=>bif o3 then (some (.done (.inl false))) else (some (.next (IntKind.wrap .i64 (s1+1))))) else (some (.done (.inr ())))) 0) fun o1=>wP o1 fun o2=>some true)
theorem zGT {l_p0 A1 c1 r} (h:jB l_p0=some r):
    Fun Tryz.prog 227 [.slice A1 l_p0.length c1] [.ro (SlL zQ A1 c1 l_p0)] (Val (.bool r)):=by
 refine Fun.intro Tryz.func227 rfl rfl rfl fun w R=>?_;refine .ab [0] rfl<|.seq<|.ab [0,6] rfl<|.cb h rfl (fun h=>?_) (fun h=>?_)
 ·refine .abf [2] [] 1 rfl rfl ?_;cases h;exact .rv rfl rfl ⟨rfl,rfl⟩ zw
 refine .sk<|.pr [0] rfl<|.seq<|.ae rfl<|.bd h fun o1 hl1 h=>.cutJ 1 (fun (o2:Unit) (e2:Unit)=>[]) (fun o2 e2=>[]) rfl rfl (fun o2=>o1= .inr o2) ?_ ?_
 ·refine .block<|.loopQ hl1 0 (fun (s1:Int) (e1:Unit)=>[0, .s 3 (.int .i64 s1)]) (fun s1 e1=>[]) rfl rfl () (zb rfl) (fun _ w=>w) ?_;rintro s1 e1 st1 hm1 hd1 h1;refine .seq<|.ab [0,3,10] rfl<|.cb h1 rfl (fun h1=>?_) (fun h1=>?_)
  ·refine .sk<|.pr [0,3] rfl<|.seq<|.block<|.seq<|.bd h1 fun o3 hj1 h1=>.cu 0 [0,3, .s 59 (.bool o3)] [] rfl rfl ?_ ?_
   ·refine .regionF mixed (by kernel_rfl)<|.n 2 rfl<|.bd hj1 fun x1 hx1 hj1=>.ix1 hx1 0 rfl fun b1 ob1=>.p rfl rfl<|.ld ob1 0 0 rfl<|.bd hj1 fun r1 hr1 hj1=>.cv [] (cC hr1) zMj rfl<|.n 2 rfl<|.gs 20 hj1 rfl (fun hj1=>?_) (fun hj1=>?_)
    ·cases hj1;exact .beq rfl<|.hU rfl (zl [] 1 rfl)
    refine .n 2 rfl<|.gOn rfl rfl<|.ix1 hx1 1 rfl fun b2 ob2=>.n 1 rfl<|.gOn rfl rfl<|.ld ob2 4 0 rfl<|.gOn rfl rfl<|.bd hj1 fun r2 hr2 hj1=>.cv [] (cC hr2) zMj rfl<|.n 3 rfl<|.gs 29 hj1 rfl (fun hj1=>?_) (fun hj1=>?_)
    ·cases hj1;exact .beq rfl<|.hU rfl (zl [] 2 rfl)
    refine .n 2 rfl<|.gOn rfl rfl<|.ix1 hx1 2 rfl fun b3 ob3=>.n 1 rfl<|.gOn rfl rfl<|.ld ob3 0 0 rfl<|.n 2 rfl<|.gOn rfl rfl<|.ix1 hx1 3 rfl fun b4 ob4=>.n 1 rfl<|.gOn rfl rfl<|.ld ob4 4 0 rfl<|.n 3 rfl<|.gs 42 hj1 rfl (fun hj1=>?_) (fun hj1=>?_)
    ·cases hj1;exact .beq rfl<|.hU rfl (zl [] 4 rfl)
    refine .n 2 rfl<|.gOn rfl rfl<|.ix1 hx1 4 rfl fun b5 ob5=>.n 1 rfl<|.gOn rfl rfl<|.ld ob5 1 0 rfl<|.gOn rfl rfl<|.bd hj1 fun r3 hr3 hj1=>.cv [] (eH hr3) zME rfl<|.n 3 rfl<|.gs 51 hj1 rfl (fun hj1=>?_) (fun hj1=>?_)
    ·cases hj1;exact .beq rfl<|.hU rfl (zl [] 5 rfl)
    refine .n 2 rfl<|.gOn rfl rfl<|.ix1 hx1 5 rfl fun b6 ob6=>.n 1 rfl<|.gOn rfl rfl<|.ld ob6 5 0 rfl<|.gOn rfl rfl<|.bd hj1 fun r4 hr4 hj1=>.cv [] (eH hr4) zME rfl ?_;cases hj1;exact .beq rfl<|.hU rfl (zl [] 6 rfl)
   refine .cb h1 rfl (fun h1=>?_) (fun h1=>?_)
   ·refine .abf [2] [] 1 rfl rfl ?_;cases h1;cases hd1 _ rfl
    have h:some _=some _:=h;cases h;exact .rv rfl rfl ⟨rfl,rfl⟩ zw
   refine .skip<|.blkN<|.thenN<|.pr [0,3] rfl<|.region ?_;cases h1;exact .be rfl<|.ag () hm1 rfl zw
  refine .xq rfl ?_;cases h1;cases hd1 _ rfl
  exact .thenN<|.hereI () () rfl trivial (zl [] 1 rfl)
 rintro o2 e2 ho;subst ho;have h:=unR h;refine .ae rfl ?_;cases h;exact .rv rfl rfl ⟨rfl,rfl⟩ zw
theorem zWh:Ent Tryz.prog 149:=en Tryz.func149 (by kernel_rfl)
noncomputable def jD (b_p0:zW):Option Int:=
  bnd ((bif decide ((b_p0.Images.length:Int)<1) then (some true) else (some (decide ((b_p0.Images.length:Int)>8))):Option Bool)) fun o1=>bif o1 then (some 2) else (bnd (yD (τ:=Int ⊕ Unit) (fun (s1:Int)=>bif decide (s1<(b_p0.Images.length:Int)) then (bnd (elt b_p0.Images s1) fun x1=>bnd (pO x1) fun r1=>bif !r1 then (some (.done (.inl 1))) else (bnd ((bif decide (s1>0) then (bnd (elt b_p0.Images (IntKind.wrap .i64 (s1 - 1))) fun x2=>some (!(Op.bytesLess x2.Name.toList x1.Name.toList))) else (some false):Option Bool)) fun o4=>bif o4 then (some (.done (.inl 7))) else (some (.next (IntKind.wrap .i64 (s1+1)))))) else (some (.done (.inr ())))) 0) fun o2=>wP o2 fun o3=>bif decide ((b_p0.Needs.length:Int)>16) then (some 3) else (bnd (jB b_p0.Needs) fun r2=>bif !r2 then (some 1) else (some 0)))
theorem zGK {b_p0 A1 c1 A2 c2 r} (h:jD b_p0=some r):
    Fun Tryz.prog 149 [.agg #[.slice A1 b_p0.Images.length c1, .slice A2 b_p0.Needs.length c2]] [.ro (Sl (yL xA) A1 c1 b_p0.Images), .ro (SlL zQ A2 c2 b_p0.Needs)] (Val (.int .i64 r)):=by
 refine Fun.intro Tryz.func149 rfl rfl rfl fun w R=>?_;refine .seq<|.region<|.box rfl rfl fun g1=>.b [1] rfl<|.seq<|.seq<|.bd h fun o1 hj1 h=>.cu 0 [1, .s 13 (.bool o1)] [] rfl rfl ?_ ?_
 ·refine .region<|.p rfl rfl<|.lb 0 0 rfl<|.n 3 rfl<|.gs 8 hj1 rfl (fun hj1=>?_) (fun hj1=>?_)
  ·cases hj1;exact .be rfl<|.hU rfl zw
  refine .n 1 rfl<|.gOn rfl rfl<|.lb 0 0 rfl ?_;cases hj1;exact .be rfl<|.hU rfl zw
 refine .cb h rfl (fun h=>?_) (fun h=>?_)
 ·refine .abf [2] [] 3 rfl rfl ?_;cases h;exact .rv rfl rfl ⟨rfl,rfl⟩ zw
 refine .sk<|.pr [1] rfl<|.seq<|.ae rfl<|.bd h fun o2 hl1 h=>.cutJ 0 (fun (o3:Unit) (e3:Unit)=>[1]) (fun o3 e3=>[]) rfl rfl (fun o3=>o2= .inr o3) ?_ ?_
 ·refine .block<|.loopQ hl1 0 (fun (s1:Int) (e2:Unit)=>[1, .s 3 (.int .i64 s1)]) (fun s1 e2=>[]) rfl rfl () (zb rfl) (fun _ w=>w) ?_;rintro s1 e2 st1 hm1 hd1 h1;refine .seq<|.a 2 rfl<|.lb 0 0 rfl<|.b [1,3,18] rfl<|.cb h1 rfl (fun h1=>?_) (fun h1=>?_)
  ·refine .sk<|.pr [1,3] rfl<|.seq<|.block<|.seq<|.a 1 rfl<|.lb 0 0 rfl<|.p rfl rfl<|.bd h1 fun x1 hx1 h1=>.ix3 hx1 1 rfl fun b1 ob1 ex1=>?_;obtain ⟨⟨A3,c3⟩,_⟩:=ex1;refine .nm 5 rfl<|.ld ob1 0 0 rfl<|.bd h1 fun r1 hr1 h1=>.cv [1] (eO hr1) zML rfl<|.bf [1,3,27] [] 2 rfl rfl<|.cb h1 rfl (fun h1=>?_) (fun h1=>?_)
   ·refine .abf [2] [] 3 rfl rfl ?_;cases h1;cases hd1 _ rfl
    have h:some _=some _:=h;cases h;exact .rv rfl rfl ⟨rfl,rfl⟩ zw
   refine .sk<|.pr [1,3] rfl<|.seq<|.bd h1 fun o4 hj2 h1=>.cu 0 [1,3, .s 45 (.bool o4)] [] rfl rfl ?_ ?_
   ·refine .regionF mixed (by kernel_rfl)<|.n 3 rfl<|.gs 30 hj2 rfl (fun hj2=>?_) (fun hj2=>?_)
    ·refine .n 1 rfl<|.gOn rfl rfl<|.lb 0 0 rfl<|.n 2 rfl<|.gOn rfl rfl<|.bd hj2 fun x2 hx2 hj2=>.ix3 hx2 1 rfl fun b2 ob2 ex2=>?_;obtain ⟨⟨A4,c4⟩,_⟩:=ex2;refine .nm 5 rfl<|.n 1 rfl<|.gOn rfl rfl<|.ld ob2 0 0 rfl<|.n 1 rfl<|.gOn rfl rfl<|.lb 0 2 rfl<|.n 1 rfl<|.gOn rfl rfl<|.ix3 hx1 3 rfl fun b3 ob3 ex3=>?_;obtain ⟨⟨A5,c5⟩,_⟩:=ex3;refine .nm 7 rfl<|.n 1 rfl<|.gOn rfl rfl<|.ld ob3 0 0 rfl ?_;cases hj2;exact .beq rfl<|.hU rfl (zl [] 4 rfl)
    cases hj2;exact .beq rfl<|.hU rfl zw
   refine .cb h1 rfl (fun h1=>?_) (fun h1=>?_)
   ·refine .abf [2] [] 3 rfl rfl ?_;cases h1;cases hd1 _ rfl
    have h:some _=some _:=h;cases h;exact .rv rfl rfl ⟨rfl,rfl⟩ zw
   refine .skip<|.blkN<|.thenN<|.pr [1,3] rfl<|.region ?_;cases h1;exact .be rfl<|.ag () hm1 rfl zw
  refine .xq rfl ?_;cases h1;cases hd1 _ rfl
  exact .thenN<|.hereI () () rfl (zb rfl) zw
 rintro o3 e3 ho;subst ho;have h:=unR h;refine .seq<|.block<|.a 1 rfl<|.lb 1 0 rfl<|.b [1,46] rfl<|.cb h rfl (fun h=>?_) (fun h=>?_)
 ·refine .abf [2] [] 3 rfl rfl ?_;cases h;exact .rv rfl rfl ⟨rfl,rfl⟩ zw
 refine .a 1 rfl<|.lb 1 0 rfl<|.bd h fun r2 hr2 h=>.cv [2] (zGT hr2) zVG rfl<|.bf [51] [] 3 rfl rfl<|.cb h rfl (fun h=>?_) (fun h=>?_)
 ·refine .ab [2] rfl ?_;cases h;exact .rv rfl rfl ⟨rfl,rfl⟩ zw
 refine .skip<|.blkN<|.thenN<|.pr [] rfl<|.ae rfl ?_;cases h;exact .rv rfl rfl ⟨rfl,rfl⟩ zw
theorem zSn:Ent Tryz.prog 151:=en Tryz.func151 (by kernel_rfl)
noncomputable def kD (n_p0:Int):Option (List Int):=
  some ([IntKind.wrap .u8 (vY .u32 n_p0 24),IntKind.wrap .u8 (vY .u32 n_p0 16),IntKind.wrap .u8 (vY .u32 n_p0 8),IntKind.wrap .u8 n_p0])
theorem zBP {n_p0 r} (h:kD n_p0=some r):
    Fun Tryz.prog 151 [.int .u32 n_p0] [] (fun v F=>∃ A1 c1,v= .slice A1 r.length c1∧F= [.res (zN eu8 5 A1 c1 r)]):=by
 unfold kD at h
 refine Fun.intro Tryz.func151 rfl rfl rfl fun w R=>?_;refine .ab [0] rfl<|.a 11 rfl<|.bS rfl fun g1=>.b [2] rfl<|.asrt (fun _ w=>w.litL (E:=eu8) (e:=5) [IntKind.wrap .u8 (vY .u32 n_p0 24),IntKind.wrap .u8 (vY .u32 n_p0 16),IntKind.wrap .u8 (vY .u32 n_p0 8),IntKind.wrap .u8 n_p0] rfl rfl) ?_;cases h;exact .rv rfl rfl ⟨(some ⟨g1,0,none⟩),([IntKind.wrap .u8 (vY .u32 n_p0 24),IntKind.wrap .u8 (vY .u32 n_p0 16),IntKind.wrap .u8 (vY .u32 n_p0 8),IntKind.wrap .u8 n_p0]:List Int).length,rfl,rfl⟩ zw
theorem zXj:Ent Tryz.prog 68:=en Tryz.func68 (by kernel_rfl)
noncomputable def kA (b_p0:zW):Option ((List Int) × Int):=
  bnd (jD b_p0) fun r1=>bif (r1 != 0) then (some ([],r1)) else (bnd (app 1 ([66,77,67,70]) [IntKind.wrap .u8 (b_p0.Images.length:Int)]) fun l1=>bnd (yD (τ:=List Int) (fun (s1:List Int × Int)=>bif decide (s1.2<(b_p0.Images.length:Int)) then (bnd (elt b_p0.Images s1.2) fun x1=>bnd (pN x1) fun r2=>bnd (app 1 s1.1 r2) fun l2=>bnd (jO x1) fun r3=>bnd (kD r3) fun r4=>bnd (app 1 l2 r4) fun l3=>some (.next (l3,IntKind.wrap .i64 (s1.2+1)))) else (some (.done s1.1))) (l1,0)) fun o1=>bnd (app 1 o1 [IntKind.wrap .u8 (b_p0.Needs.length:Int)]) fun l4=>bnd (yD (τ:=List Int) (fun (s2:List Int × Int)=>bif decide (s2.2<(b_p0.Needs.length:Int)) then (bnd (elt b_p0.Needs s2.2) fun x2=>bnd (qZ x2.Component) fun r5=>bnd (app 1 s2.1 r5) fun l5=>bnd (uI x2.From) fun r6=>bnd (app 1 l5 r6) fun l6=>bnd (qZ x2.On) fun r7=>bnd (app 1 l6 r7) fun l7=>bnd (uI x2.At) fun r8=>bnd (app 1 l7 r8) fun l8=>some (.next (l8,IntKind.wrap .i64 (s2.2+1)))) else (some (.done s2.1))) (l4,0)) fun o2=>bnd (pT o2) fun r9=>bnd (kD r9) fun r10=>bnd (app 1 o2 r10) fun l9=>bif decide ((l9.length:Int)>8192) then (some ([],3)) else (some (l9,0)))
theorem zGd {b_p0 A1 c1 A2 c2 r} (h:kA b_p0=some r):
    Fun Tryz.prog 68 [.agg #[.slice A1 b_p0.Images.length c1, .slice A2 b_p0.Needs.length c2]] [.ro (Sl (yL xA) A1 c1 b_p0.Images), .ro (SlL zQ A2 c2 b_p0.Needs)] (fun v F=>∃ A3 c3,v= .tuple #[.slice A3 r.1.length c3, .int .i64 r.2]∧F= [.res (zN eu8 5 A3 c3 r.1)]):=by
 refine Fun.intro Tryz.func68 rfl rfl rfl fun w R=>?_;refine .seq<|.region<|.box rfl rfl fun g1=>.b [1] rfl<|.seq<|.seq<|.region<|.lb 0 0 rfl<|.bd h fun r1 hr1 h=>.cv [1,2] (zGK hr1) zWh rfl<|.b [1,4] rfl<|.ab [1,4,12] rfl<|.cb h rfl (fun h=>?_) (fun h=>?_)
 ·refine .abf [2,3] [] 3 rfl rfl<|.asrt (fun _ w=>w.nilL eu8 5) ?_;cases h;exact .rv rfl rfl ⟨none,0,rfl,rfl⟩ zw
 refine .sk<|.pr [1] rfl<|.seq<|.region<|.buildSlice0 rfl rfl rfl rfl rfl rfl rfl rfl fun g2=>.markB rfl rfl rfl rfl rfl rfl<|.p rfl rfl<|.lb 0 1 rfl<|.n 2 rfl<|.bS rfl fun g3=>.asrt (fun _ w=>(w.sl [1] 0 rfl).litL (E:=eu8) (e:=5) [66,77,67,70] rfl rfl)<|.bd h fun l1 hl1 h=>.app (E:=eu8) hl1 rfl rfl rfl .z rfl rfl rfl rfl rfl rfl rfl rfl (dS (.tail _ (.head _)) rfl rfl) rfl rfl fun A3 c3=>.bf [1,5] [0] 1 rfl rfl<|.seq<|.ae rfl<|.bd h fun o1 hl1 h=>.cutK 1 (fun (e2:Option Addr × Nat)=>[1, .s 5 (.slice e2.1 o1.length e2.2)]) (fun e2=>[.res (zN eu8 5 e2.1 e2.2 o1)]) rfl rfl ?_ ?_
 ·refine .block<|.loopQ hl1 1 (fun (s1:List Int × Int) (e1:Option Addr × Nat)=>[1, .s 5 (.slice e1.1 s1.1.length e1.2), .s 6 (.int .i64 s1.2)]) (fun s1 e1=>[.res (zN eu8 5 e1.1 e1.2 s1.1)]) rfl rfl (A3,c3) (zb rfl) (fun _ w=>w) ?_;rintro s1 ⟨A4,c4⟩ st1 hm1 hd1 h1;refine .seq<|.a 2 rfl<|.lb 0 1 rfl<|.b [1,5,6,26] rfl<|.cb h1 rfl (fun h1=>?_) (fun h1=>?_)
  ·refine .sk<|.pr [1,5,6] rfl<|.seq<|.block<|.bd h1 fun x1 hx1 h1=>.openN (zm 2 rfl) hx1 fun b1 ob1 ex1 hqb1=>?_;obtain ⟨⟨A6,c6⟩,_⟩:=ex1;refine .nm 6 rfl<|.regionX (iN [0,4,9,12,17,21,32,36,40,44,48,27,31,54,59,63,64] .nil) _ mixed (by kernel_rfl) (zl [0,0] 1 rfl)<|.yn 2 rfl<|.yx 0 3 rfl<|.yn 1 rfl<|.xfx (Rd.ixN hqb1 hx1 rfl rfl rfl rfl rfl rfl rfl) rfl<|.xfx (Rd.load ob1 0 rfl (.head _) rfl rfl) rfl<|.yn 1 rfl<|.yl 0 2 rfl<|.yn 1 rfl<|.xfl (fun _ h=>h) (Rd.ixN hqb1 hx1 rfl rfl rfl rfl rfl rfl rfl) rfl<|.xfl (fun _ h=>h) (Rd.load ob1 0 rfl (.head _) rfl rfl) rfl<|.xef<|.bd h1 fun r2 hr2 h1=>.cr 7 [1] [] 0 (zAL hr2) zSu rfl fun A7 c7=>.xk (zl [1,1] 2 rfl)<|.xef<|.asrt (fun _ w=>w.meltL)<|.bd h1 fun l2 hl2 h1=>.app (E:=eu8) hl2 rfl rfl rfl (.s (.s (.s .z))) rfl rfl rfl rfl rfl rfl rfl rfl (iJ (.head _)) rfl rfl fun A8 c8=>.xk (zl [] 2 rfl)<|.bd h1 fun r3 hr3 h1=>.xqc (fun _ h=>h) (zDM hr3) zSw rfl rfl rfl rfl (za [1] rfl)<|.xef<|.bd h1 fun r4 hr4 h1=>.cr 8 [] [] 0 (zBP hr4) zSn rfl fun A9 c9=>.xk (zl [] 3 rfl)<|.xef<|.asrt (fun _ w=>w.meltL)<|.bd h1 fun l3 hl3 h1=>.app (E:=eu8) hl3 rfl rfl rfl (.s .z) rfl rfl rfl rfl rfl rfl rfl rfl (iJ (.head _)) rfl rfl fun A10 c10=>.xk (zl [] 3 rfl)<|.yn 1 rfl<|.xdone<|.blkN<|.thenN<|.pf [1,5,6] [0] 4 rfl rfl<|.region ?_;cases h1;exact .be rfl<|.ag (A10,c10) hm1 rfl zw
  refine .xq rfl ?_;cases h1;cases hd1 _ rfl
  exact .thenN<|.hE (A4,c4) rfl zw
 rintro ⟨A5,c5⟩;refine .a 2 rfl<|.lb 1 1 rfl<|.n 2 rfl<|.bS rfl fun g4=>.bd h fun l4 hl4 h=>.app (E:=eu8) hl4 rfl rfl rfl (.s .z) rfl rfl rfl rfl rfl rfl rfl rfl (dS (.head _) rfl rfl) rfl rfl fun A11 c11=>.bf [1,5] [0] 1 rfl rfl<|.seq<|.ae rfl<|.bd h fun o2 hl2 h=>.cutK 4 (fun (e4:Option Addr × Nat)=>[.s 5 (.slice e4.1 o2.length e4.2)]) (fun e4=>[.res (zN eu8 5 e4.1 e4.2 o2)]) rfl rfl ?_ ?_
 ·refine .block<|.loopQ hl2 1 (fun (s2:List Int × Int) (e3:Option Addr × Nat)=>[1, .s 5 (.slice e3.1 s2.1.length e3.2), .s 7 (.int .i64 s2.2)]) (fun s2 e3=>[.res (zN eu8 5 e3.1 e3.2 s2.1)]) rfl rfl (A11,c11) (zb rfl) (fun _ w=>w) ?_;rintro s2 ⟨A12,c12⟩ st2 hm2 hd2 h2;refine .seq<|.a 2 rfl<|.lb 1 1 rfl<|.b [1,5,7,56] rfl<|.cb h2 rfl (fun h2=>?_) (fun h2=>?_)
  ·refine .sk<|.pr [1,5,7] rfl<|.seq<|.block<|.a 1 rfl<|.lb 1 1 rfl<|.p rfl rfl<|.bd h2 fun x2 hx2 h2=>.ix1 hx2 3 rfl fun b2 ob2=>.ld ob2 0 0 rfl<|.alloc rfl rfl fun g5=>.sb 0 0 rfl<|.bf [1,5,7,8] [0] 1 rfl rfl<|.seq<|.regionX (iN [0,4,9,20,24,15,19,31,35,36] .nil) _ mixed (by kernel_rfl) (zl [0] 1 rfl)<|.yn 2 rfl<|.yx 0 0 rfl<|.yn 1 rfl<|.yl 1 0 rfl<|.xef<|.bd h2 fun r5 hr5 h2=>.cr 6 [] [] 0 (cX hr5) zMq rfl fun A14 c14=>.xk (zl [1] 2 rfl)<|.xef<|.asrt (fun _ w=>w.meltL)<|.bd h2 fun l5 hl5 h2=>.app (E:=eu8) hl5 rfl rfl rfl (.s (.s .z)) rfl rfl rfl rfl rfl rfl rfl rfl (iJ (.head _)) rfl rfl fun A15 c15=>.xk (zl [] 2 rfl)<|.xef<|.bd h2 fun r6 hr6 h2=>.cr 7 [] [] 0 (iG hr6) zMt rfl fun A16 c16=>.xk (zl [] 3 rfl)<|.xef<|.asrt (fun _ w=>w.meltL)<|.bd h2 fun l6 hl6 h2=>.app (E:=eu8) hl6 rfl rfl rfl (.s .z) rfl rfl rfl rfl rfl rfl rfl rfl (iJ (.head _)) rfl rfl fun A17 c17=>.xk (zl [] 3 rfl)<|.yn 1 rfl<|.xdone<|.thenN<|.pf [1,5,7,8] [0] 2 rfl rfl<|.regionX (iN [0,4,9,20,24,15,19,31,35,36] .nil) _ mixed (by kernel_rfl) (zl [] 1 rfl)<|.yn 2 rfl<|.yx 4 1 rfl<|.yn 1 rfl<|.yl 5 0 rfl<|.xef<|.bd h2 fun r7 hr7 h2=>.cr 6 [] [] 0 (cX hr7) zMq rfl fun A18 c18=>.xk (zl [] 2 rfl)<|.xef<|.asrt (fun _ w=>w.meltL)<|.bd h2 fun l7 hl7 h2=>.app (E:=eu8) hl7 rfl rfl rfl (.s .z) rfl rfl rfl rfl rfl rfl rfl rfl (iJ (.head _)) rfl rfl fun A19 c19=>.xk (zl [] 2 rfl)<|.xef<|.bd h2 fun r8 hr8 h2=>.cr 7 [] [] 0 (iG hr8) zMt rfl fun A20 c20=>.xk (zl [] 3 rfl)<|.xef<|.asrt (fun _ w=>w.meltL)<|.bd h2 fun l8 hl8 h2=>.app (E:=eu8) hl8 rfl rfl rfl (.s .z) rfl rfl rfl rfl rfl rfl rfl rfl (iJ (.head _)) rfl rfl fun A21 c21=>.xk (zl [] 3 rfl)<|.yn 1 rfl<|.xdone<|.blkN<|.thenN<|.pf [1,5,7] [0] 3 rfl rfl<|.region ?_;cases h2;exact .be rfl<|.ag (A21,c21) hm2 rfl zw
  refine .xq rfl ?_;cases h2;cases hd2 _ rfl
  exact .thenN<|.hE (A12,c12) rfl (zl [0] 3 rfl)
 rintro ⟨A13,c13⟩;refine .a 2 rfl<|.bd h fun r9 hr9 h=>.callL (zAN hr9) zSr rfl rfl rfl rfl (gW.own (.head _) gW.nil) (fun _ _ h=>by rw [h.2]; exact True.intro) ?_;rintro _ _ ⟨rfl,rfl⟩;refine .nm 1 rfl<|.bd h fun r10 hr10 h=>.cr 2 [] [] 0 (zBP hr10) zSn rfl fun A22 c22=>.asrt (fun _ w=>w.meltL)<|.bd h fun l9 hl9 h=>.app (E:=eu8) hl9 rfl rfl rfl (.s .z) rfl rfl rfl rfl rfl rfl rfl rfl (iJ (.head _)) rfl rfl fun A23 c23=>.bf [5] [0] 1 rfl rfl<|.seq<|.ab [5,89] rfl<|.cb h rfl (fun h=>?_) (fun h=>?_)
 ·refine .abf [2,3] [] 1 rfl rfl<|.asrt (fun _ w=>w.nilL eu8 5) ?_;cases h;exact .rv rfl rfl ⟨none,0,rfl,rfl⟩ zw
 refine .sk<|.pr [5] rfl<|.ab [2,3] rfl ?_;cases h;exact .rv rfl rfl ⟨A23,c23,rfl,rfl⟩ zw
theorem zUr:Ent Tryz.prog 17:=en Tryz.func17 (by kernel_rfl)
noncomputable def pS (c_p0:wH) (l_p1:(List zB)) (needs:(List zX)):Option (wH × (List Int)):=
  bnd (yD (τ:=List zH × List Int × Int) (fun (s1:Int × List zH × List Int × Int)=>bif decide (s1.1<(l_p1.length:Int)) then (bnd (elt l_p1 s1.1) fun x1=>bnd (yJ (⟨s1.2.2.1,s1.2.2.2⟩:wH) 5) fun r1=>bif decide (r1.2<4) then (bnd (yJ r1.1 6) fun r2=>bnd (yJ r2.1 256) fun r3=>bnd (app 64 s1.2.1 [(⟨x1.Name,(⟨IntKind.wrap .i64 (1+((IntKind.wrap .i64 (r2.2.tdiv 2)).tmod 3)),0,0⟩:zJ), [IntKind.wrap .u8 r3.2]⟩:zH)]) fun l1=>some (.next (IntKind.wrap .i64 (s1.1+1),l1,r3.1.L,r3.1.At))) else (some (.next (IntKind.wrap .i64 (s1.1+1),s1.2.1,r1.1.L,r1.1.At)))) else (some (.done (s1.2.1,s1.2.2.1,s1.2.2.2)))) (0, [],c_p0.L,c_p0.At)) fun o1=>bnd (yD (τ:=List zX × List Int × Int) (fun (s2:Int × List zX × List Int × Int)=>bif decide (s2.1<(needs.length:Int)) then (bnd (elt needs s2.1) fun x2=>bnd (yJ (⟨s2.2.2.1,s2.2.2.2⟩:wH) 2) fun r4=>bif (r4.2==0) then (bnd (app 80 s2.2.1 [x2]) fun l2=>some (.next (IntKind.wrap .i64 (s2.1+1),l2,r4.1.L,r4.1.At))) else (some (.next (IntKind.wrap .i64 (s2.1+1),s2.2.1,r4.1.L,r4.1.At)))) else (some (.done (s2.2.1,s2.2.2.1,s2.2.2.2)))) (0, [],o1.2.1,o1.2.2)) fun o2=>bnd ((bnd (yJ (⟨o2.2.1,o2.2.2⟩:wH) 16) fun r5=>bif (r5.2==15) then (bnd (app 64 o1.1 [(⟨⟨#[122,122,122]⟩,(⟨1,0,0⟩:zJ), [1]⟩:zH)]) fun l3=>some (l3,o2.1,r5.1.L,r5.1.At)) else (bif (r5.2==14) then (bnd (app 80 o2.1 [(⟨⟨#[97]⟩,(⟨0,0,0⟩:zJ),⟨#[98]⟩,(⟨0,0,0⟩:zJ)⟩:zX)]) fun l4=>some (o1.1,l4,r5.1.L,r5.1.At)) else (some (o1.1,o2.1,r5.1.L,r5.1.At))):Option (List zH × List zX × List Int × Int))) fun o3=>bnd (kA (⟨o3.1,o3.2.1⟩:zW)) fun r6=>bnd ((bnd (yJ (⟨o3.2.2.1,o3.2.2.2⟩:wH) 16) fun r7=>bif (r7.2==15) then (some (decide ((r6.1.length:Int)>0),r7.1.L,r7.1.At)) else (some (false,r7.1.L,r7.1.At)):Option (Bool × List Int × Int))) fun o4=>bif o4.1 then (bnd (yJ (⟨o4.2.1,o4.2.2⟩:wH) (r6.1.length:Int)) fun r8=>bnd (elt r6.1 r8.2) fun x3=>bnd (sV r6.1 r8.2 (IntKind.wrap .u8 (x3+1))) fun l5=>some (r8.1,l5)) else (some ((⟨o4.2.1,o4.2.2⟩:wH),r6.1))
theorem zAO {c_p0 l_p1 needs A1 c1 A2 c2 A3 c3 gb1 r} (h:pS c_p0 l_p1 needs=some r):
    Fun Tryz.prog 17 [.pointer (some ⟨gb1,0,none⟩), .slice A2 l_p1.length c2, .slice A3 needs.length c3] [.ro (SlL eu8 A1 c1 c_p0.L), .ro (Sl (yL zF) A2 c2 l_p1), .ro (SlL zQ A3 c3 needs), .res (Box gb1 127 [.slice A1 c_p0.L.length c1, .int .i64 c_p0.At])] (fun v F=>∃ A4 c4 A5 c5,v= .slice A5 r.2.length c5∧F= [.ro (SlL eu8 A4 c4 r.1.L), .res (Box gb1 127 [.slice A4 r.1.L.length c4, .int .i64 r.1.At]), .res (zN eu8 5 A5 c5 r.2)]):=by
 refine Fun.intro Tryz.func17 rfl rfl rfl fun w R=>?_;refine .ab [0,1,2] rfl<|.seq<|.region<|.alloc rfl rfl fun g1=>.done<|.thenN<|.seq<|.ab [0,2,7,14,15,16] rfl<|.asrt (fun _ w=>w.nilC (yL xA) 58)<|.bd h fun o1 hl1 h=>.cutK 6 (fun (e2:Option Addr × Nat × Option Addr × Nat)=>[0,2,7]) (fun e2=>[.ro (SlL eu8 e2.2.2.1 e2.2.2.2 o1.2.1), .res (xN (yL xA) 58 e2.1 e2.2.1 o1.1), .res (Box g1 46 [.slice e2.1 o1.1.length e2.2.1, .slice none 0 0]),4, .res (Box gb1 127 [.slice e2.2.2.1 o1.2.1.length e2.2.2.2, .int .i64 o1.2.2])]) rfl rfl ?_ ?_
 ·refine .block<|.loopQ hl1 6 (fun (s1:Int × List zH × List Int × Int) (e1:Option Addr × Nat × Option Addr × Nat)=>[0,2,7,14,15, .s 16 (.int .i64 s1.1)]) (fun s1 e1=>[.ro (SlL eu8 e1.2.2.1 e1.2.2.2 s1.2.2.1), .res (xN (yL xA) 58 e1.1 e1.2.1 s1.2.1), .res (Box g1 46 [.slice e1.1 s1.2.1.length e1.2.1, .slice none 0 0]),3,4, .res (Box gb1 127 [.slice e1.2.2.1 s1.2.2.1.length e1.2.2.2, .int .i64 s1.2.2.2])]) rfl rfl (none,0,A1,c1) (zb rfl) (zl [2] 0 rfl) ?_;rintro s1 ⟨A4,c4,A5,c5⟩ st1 hm1 hd1 h1;refine .ae rfl<|.seq<|.cb h1 rfl (fun h1=>?_) (fun h1=>?_)
  ·refine .sk<|.pr [0,2,7,14,15,16] rfl<|.seq<|.block<|.seq<|.region<|.bd h1 fun x1 hx1 h1=>.ix3 hx1 3 rfl fun b1 ob1 ex1=>?_;obtain ⟨⟨A8,c8⟩,⟨⟨A9,c9⟩,_⟩⟩:=ex1;refine .nm 9 rfl<|.ld ob1 0 0 rfl<|.alloc rfl rfl fun g2=>.sb 0 0 rfl<|.bf [0,2,7,9,14,15,16] [0] 1 rfl rfl<|.a 1 rfl<|.bd h1 fun r1 hr1 h1=>.cr 10 [4] [8] 0 (yM hr1) jS rfl fun A10 c10=>.bf [0,2,7,9,14,15,16,22] [0,0,0,0,0] 1 rfl rfl<|.cb h1 rfl (fun h1=>?_) (fun h1=>?_)
   ·refine .bd h1 fun r2 hr2 h1=>.bd h1 fun r3 hr3 h1=>.bd h1 fun l1 hl1 h1=>.regionX (iN [0,8,12,16,40] (.alt (iN [7] (iN [23,24,28,32,36] (iN [47,48] (iN [55,56] (iN [63] (iN [67,68] (iN [75] .nil))))))) (iN [23,24,28,32,36] (.alt (iN [7] (iN [47,48] (iN [55,56] (iN [63] (iN [67,68] (iN [75] .nil)))))) (iN [47,48] (.alt (iN [7] (iN [55,56] (iN [63] (iN [67,68] (iN [75] .nil))))) (iN [55,56] (.alt (iN [7] (iN [63] (iN [67,68] (iN [75] .nil)))) (iN [63] (iN [7] (iN [67,68] (iN [75] .nil)))))))))))) _ mixed (by kernel_rfl) (zl [0,1,1,1] 3 rfl)<|.shareK (Y:=?Ynd1_0) 2 (fun (e:Nat × Nat × Option Addr × Nat × Option Addr × Nat)=>[0,2,7,9,14,15,16,22, .s 23 (.pointer (some ⟨g1,0,none⟩)), .s 24 (.slice A4 s1.2.1.length c4), .s 25 (.pointer (some ⟨g2,0,none⟩)), .s 26 (.string x1.Name), .s 27 (.pointer (some ⟨gb1,0,none⟩)), .s 28 (.int .i64 r2.2), .s 29 (.int .i64 (IntKind.wrap .i64 (r2.2.tdiv 2))), .s 30 (.int .i64 ((IntKind.wrap .i64 (r2.2.tdiv 2)).tmod 3)), .s 31 (.int .i64 (IntKind.wrap .i64 (1+((IntKind.wrap .i64 (r2.2.tdiv 2)).tmod 3)))), .s 32 (.agg #[.int .i64 (IntKind.wrap .i64 (1+((IntKind.wrap .i64 (r2.2.tdiv 2)).tmod 3))), .int .i64 0, .int .i64 0]), .s 33 (.pointer (some ⟨gb1,0,none⟩)), .s 34 (.int .i64 r3.2), .s 35 (.int .u8 (IntKind.wrap .u8 r3.2)), .s 36 (.slice (some ⟨e.1,0,none⟩) 1 1), .s 37 (.agg #[.string x1.Name, .int .i64 (IntKind.wrap .i64 (1+((IntKind.wrap .i64 (r2.2.tdiv 2)).tmod 3))), .int .i64 0, .int .i64 0, .slice (some ⟨e.1,0,none⟩) 1 1]), .s 38 (.slice (some ⟨e.2.1,0,none⟩) 1 1)]) (fun e=>[.res (Box e.2.1 58 [.string x1.Name, .int .i64 (IntKind.wrap .i64 (1+((IntKind.wrap .i64 (r2.2.tdiv 2)).tmod 3))), .int .i64 0, .int .i64 0, .slice (some ⟨e.1,0,none⟩) 1 1]), .res (Box e.1 5 [.int .u8 (IntKind.wrap .u8 r3.2)]), .ro (SlL eu8 e.2.2.1 e.2.2.2.1 r3.1.L), .res (Box gb1 127 [.slice e.2.2.1 r3.1.L.length e.2.2.2.1, .int .i64 r3.1.At]), .ro (SlL eu8 e.2.2.2.2.1 e.2.2.2.2.2 r2.1.L),0]) rfl rfl (fun hnd1_0=>?mnd1_0) ?tnd1_0
    case mnd1_0=>
     refine .shareK (Y:=?Ynd1_1) 2 (fun (e:Nat × Option Addr × Nat × Option Addr × Nat)=>[0,2,7,9,14,15,16,22, .s 23 (.pointer (some ⟨g1,0,none⟩)), .s 24 (.slice A4 s1.2.1.length c4), .s 25 (.pointer (some ⟨g2,0,none⟩)), .s 26 (.string x1.Name), .s 27 (.pointer (some ⟨gb1,0,none⟩)), .s 28 (.int .i64 r2.2), .s 29 (.int .i64 (IntKind.wrap .i64 (r2.2.tdiv 2))), .s 30 (.int .i64 ((IntKind.wrap .i64 (r2.2.tdiv 2)).tmod 3)), .s 31 (.int .i64 (IntKind.wrap .i64 (1+((IntKind.wrap .i64 (r2.2.tdiv 2)).tmod 3)))), .s 32 (.agg #[.int .i64 (IntKind.wrap .i64 (1+((IntKind.wrap .i64 (r2.2.tdiv 2)).tmod 3))), .int .i64 0, .int .i64 0]), .s 33 (.pointer (some ⟨gb1,0,none⟩)), .s 34 (.int .i64 r3.2), .s 35 (.int .u8 (IntKind.wrap .u8 r3.2)), .s 36 (.slice (some ⟨e.1,0,none⟩) 1 1), .s 37 (.agg #[.string x1.Name, .int .i64 (IntKind.wrap .i64 (1+((IntKind.wrap .i64 (r2.2.tdiv 2)).tmod 3))), .int .i64 0, .int .i64 0, .slice (some ⟨e.1,0,none⟩) 1 1])]) (fun e=>[.res (Box e.1 5 [.int .u8 (IntKind.wrap .u8 r3.2)]), .ro (SlL eu8 e.2.1 e.2.2.1 r3.1.L), .res (Box gb1 127 [.slice e.2.1 r3.1.L.length e.2.2.1, .int .i64 r3.1.At]), .ro (SlL eu8 e.2.2.2.1 e.2.2.2.2 r2.1.L),0]) rfl rfl (fun hnd1_1=>?mnd1_1) ?tnd1_1
     case mnd1_1=>
      refine .shareK (Y:=?Ynd1_2) 2 (fun (e:Option Addr × Nat × Option Addr × Nat)=>[0,2,7,9,14,15,16,22, .s 23 (.pointer (some ⟨g1,0,none⟩)), .s 24 (.slice A4 s1.2.1.length c4), .s 25 (.pointer (some ⟨g2,0,none⟩)), .s 26 (.string x1.Name), .s 27 (.pointer (some ⟨gb1,0,none⟩)), .s 28 (.int .i64 r2.2), .s 29 (.int .i64 (IntKind.wrap .i64 (r2.2.tdiv 2))), .s 30 (.int .i64 ((IntKind.wrap .i64 (r2.2.tdiv 2)).tmod 3)), .s 31 (.int .i64 (IntKind.wrap .i64 (1+((IntKind.wrap .i64 (r2.2.tdiv 2)).tmod 3)))), .s 32 (.agg #[.int .i64 (IntKind.wrap .i64 (1+((IntKind.wrap .i64 (r2.2.tdiv 2)).tmod 3))), .int .i64 0, .int .i64 0]), .s 33 (.pointer (some ⟨gb1,0,none⟩)), .s 34 (.int .i64 r3.2), .s 35 (.int .u8 (IntKind.wrap .u8 r3.2))]) (fun e=>[.ro (SlL eu8 e.1 e.2.1 r3.1.L), .res (Box gb1 127 [.slice e.1 r3.1.L.length e.2.1, .int .i64 r3.1.At]), .ro (SlL eu8 e.2.2.1 e.2.2.2 r2.1.L),0]) rfl rfl (fun hnd1_2=>?mnd1_2) ?tnd1_2
      case mnd1_2=>
       refine .shareK (Y:=?Ynd1_3) 2 (fun (e:Option Addr × Nat)=>[0,2,7,9,14,15,16,22, .s 23 (.pointer (some ⟨g1,0,none⟩)), .s 24 (.slice A4 s1.2.1.length c4), .s 25 (.pointer (some ⟨g2,0,none⟩)), .s 26 (.string x1.Name), .s 27 (.pointer (some ⟨gb1,0,none⟩)), .s 28 (.int .i64 r2.2), .s 29 (.int .i64 (IntKind.wrap .i64 (r2.2.tdiv 2))), .s 30 (.int .i64 ((IntKind.wrap .i64 (r2.2.tdiv 2)).tmod 3)), .s 31 (.int .i64 (IntKind.wrap .i64 (1+((IntKind.wrap .i64 (r2.2.tdiv 2)).tmod 3)))), .s 32 (.agg #[.int .i64 (IntKind.wrap .i64 (1+((IntKind.wrap .i64 (r2.2.tdiv 2)).tmod 3))), .int .i64 0, .int .i64 0]), .s 33 (.pointer (some ⟨gb1,0,none⟩))]) (fun e=>[.ro (SlL eu8 e.1 e.2 r2.1.L), .res (Box gb1 127 [.slice e.1 r2.1.L.length e.2, .int .i64 r2.1.At]),0]) rfl rfl (fun hnd1_3=>?mnd1_3) ?tnd1_3
       case mnd1_3=>
        refine .yn 2 rfl<|.yl 0 1 rfl<|.yn 2 rfl<|.xalt ?_ ?_
        ·refine .xef<|.lb 0 6 rfl<|.xk (zl [0,1,1,1] 3 rfl)<|.xef<|.cr 10 [1] [1] 0 (yM hr2) jS rfl fun A11 c11=>.xk (zl [2,2,2,2] 4 rfl)<|.yn 4 rfl ?_;refine hnd1_3 _ _ (A11,c11) ?_ ?_
         ·exact ⟨rfl,rfl,rfl,rfl,rfl,rfl,rfl,rfl,rfl,rfl,rfl,rfl,rfl,rfl,rfl,rfl,rfl,rfl,rfl,trivial⟩
         exact fun _ w=>w
        refine .xef<|.cr 10 [1] [1] 0 (yM hr2) jS rfl fun A11 c11=>.xk (zl [2,2,2,2] 4 rfl)<|.yn 4 rfl<|.xalt ?_ ?_
        ·refine .xef<|.lb 0 7 rfl<|.xk (zl [2,2,2,2] 4 rfl) ?_;refine hnd1_3 _ _ (A11,c11) ?_ ?_
         ·exact ⟨rfl,rfl,rfl,rfl,rfl,rfl,rfl,rfl,rfl,rfl,rfl,rfl,rfl,rfl,rfl,rfl,rfl,rfl,rfl,trivial⟩
         exact fun _ w=>w
        refine .xef<|.cr 11 [1] [1] 0 (yM hr3) jS rfl fun A12 c12=>.xk (zl [3,3,3,3] 5 rfl)<|.yn 1 rfl<|.xalt ?_ ?_
        ·refine .xef<|.lb 0 8 rfl<|.xk (zl [3,3,3,3] 5 rfl) ?_;refine hnd1_2 _ _ (A12,c12,A11,c11) ?_ ?_
         ·exact ⟨rfl,rfl,rfl,rfl,rfl,rfl,rfl,rfl,rfl,rfl,rfl,rfl,rfl,rfl,rfl,rfl,rfl,rfl,rfl,rfl,rfl,trivial⟩
         exact fun _ w=>w
        refine .xef<|.bS rfl fun g3=>.xk (zl [4,4,4,4] 6 rfl)<|.yn 1 rfl<|.xalt ?_ ?_
        ·refine .xef<|.lb 0 9 rfl<|.xk (zl [4,4,4,4] 6 rfl) ?_;refine hnd1_1 _ _ (g3,A12,c12,A11,c11) ?_ ?_
         ·exact ⟨rfl,rfl,rfl,rfl,rfl,rfl,rfl,rfl,rfl,rfl,rfl,rfl,rfl,rfl,rfl,rfl,rfl,rfl,rfl,rfl,rfl,rfl,rfl,trivial⟩
         exact fun _ w=>w
        refine .xef<|.bS rfl fun g4=>.xk (zl [5,5,5,5] 7 rfl)<|.xef<|.lb 0 10 rfl<|.xk (zl [5,5,5,5] 7 rfl) ?_;refine hnd1_0 _ _ (g3,g4,A12,c12,A11,c11) ?_ ?_
        ·exact ⟨rfl,rfl,rfl,rfl,rfl,rfl,rfl,rfl,rfl,rfl,rfl,rfl,rfl,rfl,rfl,rfl,rfl,rfl,rfl,rfl,rfl,rfl,rfl,rfl,trivial⟩
        exact fun _ w=>w
       case tnd1_3=>
        rintro ⟨A11,c11⟩;refine .nm 10 rfl<|.xef<|.cr 11 [1] [1] 0 (yM hr3) jS rfl fun A12 c12=>.xk (zl [3,3,3,3] 5 rfl)<|.yn 1 rfl ?_;refine hnd1_2 _ _ (A12,c12,A11,c11) ?_ ?_
        ·exact ⟨rfl,rfl,rfl,rfl,rfl,rfl,rfl,rfl,rfl,rfl,rfl,rfl,rfl,rfl,rfl,rfl,rfl,rfl,rfl,rfl,rfl,trivial⟩
        exact fun _ w=>w
      case tnd1_2=>
       rintro ⟨A12,c12,A11,c11⟩;refine .nm 11 rfl<|.xef<|.bS rfl fun g3=>.xk (zl [4,4,4,4] 6 rfl)<|.yn 1 rfl ?_;refine hnd1_1 _ _ (g3,A12,c12,A11,c11) ?_ ?_
       ·exact ⟨rfl,rfl,rfl,rfl,rfl,rfl,rfl,rfl,rfl,rfl,rfl,rfl,rfl,rfl,rfl,rfl,rfl,rfl,rfl,rfl,rfl,rfl,rfl,trivial⟩
       exact fun _ w=>w
     case tnd1_1=>
      rintro ⟨g3,A12,c12,A11,c11⟩;refine .nm 12 rfl<|.xef<|.bS rfl fun g4=>.xk (zl [5,5,5,5] 7 rfl) ?_;refine hnd1_0 _ _ (g3,g4,A12,c12,A11,c11) ?_ ?_
      ·exact ⟨rfl,rfl,rfl,rfl,rfl,rfl,rfl,rfl,rfl,rfl,rfl,rfl,rfl,rfl,rfl,rfl,rfl,rfl,rfl,rfl,rfl,rfl,rfl,rfl,trivial⟩
      exact fun _ w=>w
    case tnd1_0=>
     rintro ⟨g3,g4,A12,c12,A11,c11⟩;refine .nm 13 rfl<|.xef<|.asrt (fun _ w=>(w.sl [1] 0 rfl).litL (E:=eu8) (e:=5) [IntKind.wrap .u8 r3.2] rfl rfl)<|.asrt (fun _ w=>w.meltL)<|.appC (E:=(yL xA)) hl1 rfl rfl rfl (.s (.s (.s (.s (.s (.s (.s (.s (.s .z))))))))) rfl rfl rfl rfl rfl rfl rfl rfl (zDN (ls:=xA) [((⟨x1.Name,(⟨IntKind.wrap .i64 (1+((IntKind.wrap .i64 (r2.2.tdiv 2)).tmod 3)),0,0⟩:zJ), [IntKind.wrap .u8 r3.2]⟩:zH),(((some ⟨g3,0,none⟩),([IntKind.wrap .u8 r3.2]:List Int).length),()))] (.tail _ (.head _)) rfl rfl rfl ⟨(.head _),trivial⟩) rfl rfl fun A13 c13=>.xk (zl [6,6,6,6] 7 rfl)<|.yn 1 rfl<|.xef<|.sb 0 10 rfl<|.xk (zl [] 7 rfl)<|.xdone<|.blkN<|.thenN<|.pf [0,2,7,14,15,16] [0,0,2,2] 7 rfl rfl<|.region ?_;cases h1;exact .be rfl<|.ag (A13,c13,A12,c12) hm1 rfl (zl [2,1,0,1,1] 0 rfl)
   refine .skip<|.blkN<|.thenN<|.pf [0,2,7,14,15,16] [0,0] 3 rfl rfl<|.region ?_;cases h1;exact .be rfl<|.ag (A4,c4,A10,c10) hm1 rfl (zl [0,1,1,1,1] 0 rfl)
  refine .xq rfl ?_;cases h1;cases hd1 _ rfl
  exact .thenN<|.hE (A4,c4,A5,c5) rfl (zl [0,0,0] 1 rfl)
 rintro ⟨A6,c6,A7,c7⟩;refine .seq<|.ab [0,7,42,43,44] rfl<|.asrt (fun _ w=>w.nilL zQ 123)<|.bd h fun o2 hl2 h=>.cutK 6 (fun (e4:Option Addr × Nat × Option Addr × Nat)=>[0,7]) (fun e4=>[.ro (SlL eu8 e4.2.2.1 e4.2.2.2 o2.2.1), .res (zN zQ 123 e4.1 e4.2.1 o2.1),2, .res (Box g1 46 [.slice A6 o1.1.length c6, .slice e4.1 o2.1.length e4.2.1]), .res (Box gb1 127 [.slice e4.2.2.1 o2.2.1.length e4.2.2.2, .int .i64 o2.2.2])]) rfl rfl ?_ ?_
 ·refine .block<|.loopQ hl2 6 (fun (s2:Int × List zX × List Int × Int) (e3:Option Addr × Nat × Option Addr × Nat)=>[0,7,42,43, .s 44 (.int .i64 s2.1)]) (fun s2 e3=>[.ro (SlL eu8 e3.2.2.1 e3.2.2.2 s2.2.2.1), .res (zN zQ 123 e3.1 e3.2.1 s2.2.1),2, .res (Box g1 46 [.slice A6 o1.1.length c6, .slice e3.1 s2.2.1.length e3.2.1]),4, .res (Box gb1 127 [.slice e3.2.2.1 s2.2.2.1.length e3.2.2.2, .int .i64 s2.2.2.2])]) rfl rfl (none,0,A7,c7) (zb rfl) (zl [1] 0 rfl) ?_;rintro s2 ⟨A14,c14,A15,c15⟩ st2 hm2 hd2 h2;refine .ae rfl<|.seq<|.cb h2 rfl (fun h2=>?_) (fun h2=>?_)
  ·refine .sk<|.pr [0,7,42,43,44] rfl<|.seq<|.block<|.seq<|.region<|.bd h2 fun x2 hx2 h2=>.ix1 hx2 4 rfl fun b2 ob2=>.ld ob2 0 0 rfl<|.alloc rfl rfl fun g5=>.sb 0 0 rfl<|.bf [0,7,11,42,43,44] [0] 1 rfl rfl<|.a 1 rfl<|.bd h2 fun r4 hr4 h2=>.cr 8 [2] [6] 0 (yM hr4) jS rfl fun A18 c18=>.bf [0,7,11,42,43,44,50] [0,0,0] 1 rfl rfl<|.cb h2 rfl (fun h2=>?_) (fun h2=>?_)
   ·refine .region<|.p rfl rfl<|.lb 1 5 rfl<|.lb 0 2 rfl<|.bS rfl fun g6=>.bd h2 fun l2 hl2 h2=>.app (E:=zQ) hl2 rfl rfl rfl (.s (.s (.s (.s .z)))) rfl rfl rfl rfl rfl rfl rfl rfl (dS (.head _) rfl rfl) rfl rfl fun A19 c19=>.p rfl rfl<|.sb 1 6 rfl<|.done<|.blkN<|.thenN<|.pf [0,7,42,43,44] [0,0,1,1] 2 rfl rfl<|.region ?_;cases h2;exact .be rfl<|.ag (A19,c19,A18,c18) hm2 rfl (zl [2,1,2,0,1] 0 rfl)
   refine .skip<|.blkN<|.thenN<|.pf [0,7,42,43,44] [0,0] 1 rfl rfl<|.region ?_;cases h2;exact .be rfl<|.ag (A14,c14,A18,c18) hm2 rfl (zl [0,1,1,1,1] 0 rfl)
  refine .xq rfl ?_;cases h2;cases hd2 _ rfl
  exact .thenN<|.hE (A14,c14,A15,c15) rfl (zl [0,0,0,0] 1 rfl)
 rintro ⟨A16,c16,A17,c17⟩;refine .seq<|.bd h fun o3 hj1 h=>.cutK 5 (fun (e5:Option Addr × Nat × Option Addr × Nat × Option Addr × Nat)=>[0,7]) (fun e5=>[.ro (SlL eu8 e5.2.2.2.2.1 e5.2.2.2.2.2 o3.2.2.1), .res (zN zQ 123 e5.2.2.1 e5.2.2.2.1 o3.2.1), .res (xN (yL xA) 58 e5.1 e5.2.1 o3.1), .res (Box g1 46 [.slice e5.1 o3.1.length e5.2.1, .slice e5.2.2.1 o3.2.1.length e5.2.2.2.1]), .res (Box gb1 127 [.slice e5.2.2.2.2.1 o3.2.2.1.length e5.2.2.2.2.2, .int .i64 o3.2.2.2])]) rfl rfl ?_ ?_
 ·refine .a 1 rfl<|.bd hj1 fun r5 hr5 hj1=>.cr 6 [1] [4] 0 (yM hr5) jS rfl fun A23 c23=>.bf [0,7,59] [0,0] 1 rfl rfl<|.block<|.ab [0,7,59,60] rfl<|.cb hj1 rfl (fun hj1=>?_) (fun hj1=>?_)
  ·refine .region<|.p rfl rfl<|.lb 0 4 rfl<|.p rfl rfl<|.bS rfl fun g7=>.p rfl rfl<|.bS rfl fun g8=>.bd hj1 fun l3 hl3 hj1=>.asrt (fun _ w=>(w.sl [1] 0 rfl).litL (E:=eu8) (e:=5) [1] rfl rfl)<|.asrt (fun _ w=>w.meltL)<|.appC (E:=(yL xA)) hl3 rfl rfl rfl (.s (.s (.s (.s (.s .z))))) rfl rfl rfl rfl rfl rfl rfl rfl (zDN (ls:=xA) [((⟨⟨#[122,122,122]⟩,(⟨1,0,0⟩:zJ), [1]⟩:zH),(((some ⟨g7,0,none⟩),([1]:List Int).length),()))] (.tail _ (.head _)) rfl rfl rfl ⟨(.head _),trivial⟩) rfl rfl fun A24 c24=>.p rfl rfl<|.sb 0 6 rfl<|.done<|.blkN ?_;cases hj1;exact .thenN<|.hE (A24,c24,A16,c16,A23,c23) rfl (zl [4,5,1,0] 2 rfl)
  refine .ab [0,7,70] rfl<|.cb hj1 rfl (fun hj1=>?_) (fun hj1=>?_)
  ·refine .region<|.p rfl rfl<|.lb 1 4 rfl<|.p rfl rfl<|.bS rfl fun g9=>.bd hj1 fun l4 hl4 hj1=>.app (E:=zQ) hl4 rfl rfl rfl (.s (.s (.s .z))) rfl rfl rfl rfl rfl rfl rfl rfl (dS (.head _) rfl rfl) rfl rfl fun A25 c25=>.p rfl rfl<|.sb 1 5 rfl<|.done<|.blkN ?_;cases hj1;exact .thenN<|.hE (A6,c6,A25,c25,A23,c23) rfl (zl [3,1,3,0] 1 rfl)
  refine .skip<|.blkN ?_;cases hj1;exact .thenN<|.hE (A6,c6,A16,c16,A23,c23) rfl (zl [0,1,1,1] 0 rfl)
 rintro ⟨A20,c20,A21,c21,A22,c22⟩;refine .seq<|.region<|.lb 0 3 rfl<|.asrt (fun _ w=>(w.sl [2] 0 rfl).meltC)<|.asrt (fun _ w=>(w.sl [2] 0 rfl).meltL)<|.bd h fun r6 hr6 h=>.cr 6 [1,0] [] 0 (zGd hr6) zXj rfl fun A26 c26=>.bf [0,12] [0,2] 3 rfl rfl<|.seq<|.seq<|.bd h fun o4 hj2 h=>.cutK 3 (fun (e6:Option Addr × Nat)=>[0,12, .s 90 (.bool o4.1)]) (fun e6=>[.ro (SlL eu8 e6.1 e6.2 o4.2.1),0, .res (Box gb1 127 [.slice e6.1 o4.2.1.length e6.2, .int .i64 o4.2.2])]) rfl rfl ?_ ?_
 ·refine .region<|.p rfl rfl<|.bd hj2 fun r7 hr7 hj2=>.cr 4 [2] [2] 0 (yM hr7) jS rfl fun A28 c28=>.n 2 rfl<|.gs 86 hj2 rfl (fun hj2=>?_) (fun hj2=>?_)
  ·cases hj2;exact .be rfl<|.hE (A28,c28) rfl (zl [0,1,0] 1 rfl)
  cases hj2;exact .be rfl<|.hE (A28,c28) rfl (zl [0,1,0] 1 rfl)
 rintro ⟨A27,c27⟩;refine .cb h rfl (fun h=>?_) (fun h=>?_)
 ·refine .region<|.n 4 rfl<|.bd h fun r8 hr8 h=>.cr 4 [1] [2] 0 (yM hr8) jS rfl fun A29 c29=>.bd h fun x3 hx3 h=>.ix2 hx3 3 rfl fun g10 hA=>?_;subst hA;refine .ldO 0 hx3 rfl rfl (zm 3 rfl) rfl rfl<|.p rfl rfl<|.ix2 hx3 3 rfl fun g11 hA=>?_;cases hA;refine .bd h fun l5 hl5 h=>.stO 0 hx3 hl5 rfl rfl (.s (.s (.s .z))) rfl rfl rfl rfl rfl ?_;refine .ss 12 (tO hl5) ?_;refine .ss 91 (tO hl5) ?_;refine .ss 93 (tO hl5)<|.bf [12] [0,0,0] 1 rfl rfl<|.ab [6] rfl ?_;cases h;exact .rv rfl rfl ⟨A29,c29,(some ⟨g10,0,none⟩),c26,rfl,rfl⟩ (zk 3 1 [2] [2] 0 rfl)
 refine .sk<|.pr [12] rfl<|.ab [6] rfl ?_;cases h;exact .rv rfl rfl ⟨A27,c27,A26,c26,rfl,rfl⟩ (zk 3 1 [2] [2,1] 0 rfl)
theorem zUB:Ent Tryz.prog 24:=en Tryz.func24 (by kernel_rfl)
noncomputable def uD (a_p0:zC):Option (List zB):=
  bnd ((mkC 184 0 (a_p0.devices.length:Int):Option (List zB))) fun l1=>bnd (yD (τ:=List zB) (fun (s1:List zB × Int)=>bif decide (s1.2<(a_p0.devices.length:Int)) then (bnd (elt a_p0.devices s1.2) fun x1=>bnd (pG x1) fun r1=>bnd (app 184 s1.1 [r1]) fun l2=>some (.next (l2,IntKind.wrap .i64 (s1.2+1)))) else (some (.done s1.1))) (l1,0)) fun o1=>some o1
end Go.Proofs.YtplchdlgdjcojaaGreatDoor
end
section
namespace Go.Proofs.YtplchdlgdjcojaaGreatDoor
open Go
set_option linter.unusedVariables false
set_option maxHeartbeats 4000000
set_option maxRecDepth 4000
theorem lB {a_p0 A1 c1 A2 c2 A3 c3 A4 c4 A5 c5 gb1 gb2 r} (h:uD a_p0=some r):
    Fun Tryz.prog 24 [.pointer (some ⟨gb1,0,none⟩)] [.ro (SlL zQ A2 c2 a_p0.needs), .ro (SlL yT A3 c3 a_p0.load.Have), .ro (SlL eu8 A4 c4 a_p0.load.Data), .ro (SlL yF A5 c5 a_p0.order), .res (Box gb1 144 (zI a_p0 gb2 A1 c1 A2 c2 A3 c3 A4 c4 A5 c5)), .res (xN (yL zF) 64 A1 c1 a_p0.devices)] (fun v F=>∃ A6 c6,v= .slice A6 r.length c6∧F= [.res (Box gb1 144 (zI a_p0 gb2 A1 c1 A2 c2 A3 c3 A4 c4 A5 c5)), .res (xN (yL zF) 64 A1 c1 a_p0.devices), .res (xN (yL zF) 64 A6 c6 r)]):=by
 refine Fun.intro Tryz.func24 rfl rfl rfl fun w R=>?_;refine .ab [0] rfl<|.a 3 rfl<|.lb 1 4 rfl<|.p rfl rfl<|.bd h fun l1 hl1 h=>.mkC (E:=(yL zF)) hl1 rfl rfl rfl rfl rfl rfl rfl rfl rfl rfl rfl fun g1=>.b [0,3] rfl<|.seq<|.a 3 rfl<|.lb 1 5 rfl<|.b [3,15,16,17] rfl<|.bd h fun o1 hl1 h=>.cutK 1 (fun (e2:Option Addr × Nat)=>[.s 3 (.slice e2.1 o1.length e2.2)]) (fun e2=>[.res (xN (yL zF) 64 e2.1 e2.2 o1)]) rfl rfl ?_ ?_
 ·refine .block<|.loopQ hl1 1 (fun (s1:List zB × Int) (e1:Option Addr × Nat)=>[.s 3 (.slice e1.1 s1.1.length e1.2),15,16, .s 17 (.int .i64 s1.2)]) (fun s1 e1=>[.res (xN (yL zF) 64 e1.1 e1.2 s1.1)]) rfl rfl ((some ⟨g1,0,none⟩),(Int.toNat (a_p0.devices.length:Int))) (zb rfl) (fun _ w=>w) ?_;rintro s1 ⟨A6,c6⟩ st1 hm1 hd1 h1;refine .ae rfl<|.seq<|.cb h1 rfl (fun h1=>?_) (fun h1=>?_)
  ·refine .sk<|.pr [3,15,16,17] rfl<|.seq<|.block<|.seq<|.region<|.bd h1 fun x1 hx1 h1=>.ixC hx1 rfl rfl rfl (zm 6 rfl) rfl rfl rfl rfl rfl fun g2 hA=>?_;subst hA;refine .ldC (ls:=zF) 0 (fun ex=>.agg (zL x1 ex.1.1 ex.1.2 ex.2.1.1 ex.2.1.2).toArray) hx1 rfl rfl (zm 6 rfl) rfl (fun _=>rfl) fun ex1=>?_;obtain ⟨⟨A8,c8⟩,⟨⟨A9,c9⟩,_⟩⟩:=ex1;refine .nm 9 rfl<|.alloc rfl rfl fun g3=>.sb 0 0 rfl<|.b [3,5,15,16,17] rfl<|.region<|.p rfl rfl<|.lb 0 0 rfl<|.bd h1 fun r1 hr1 h1=>.ct 12 [1,2] [] 0 (bB hr1) zUw rfl fun A10 c10 A11 c11=>.bS rfl fun g4=>.bd h1 fun l2 hl2 h1=>.appC (E:=(yL zF)) hl2 rfl rfl rfl (.s (.s (.s (.s (.s (.s .z)))))) rfl rfl rfl rfl rfl rfl rfl rfl (zDN (ls:=zF) [(r1,((A10,c10),((A11,c11),())))] (.head _) rfl rfl rfl ⟨(.tail _ (.head _)),(zm 2 rfl),trivial⟩) rfl rfl fun A12 c12=>.p rfl rfl<|.done<|.blkN<|.thenN<|.pf [3,15,16,17] [0] 6 rfl rfl<|.region ?_;cases h1;exact .be rfl<|.ag (A12,c12) hm1 rfl zw
  refine .xq rfl ?_;cases h1;cases hd1 _ rfl
  exact .thenN<|.hE (A6,c6) rfl zw
 rintro ⟨A7,c7⟩;refine .ab [2] rfl ?_;cases h;exact .rv rfl rfl ⟨A7,c7,rfl,rfl⟩ (zl [5,5,0] 4 rfl)
theorem zQf:Ent Tryz.prog 28:=en Tryz.func28 (by kernel_rfl)
noncomputable def uE (a_p0:zH) (b_p1:zH):Option Bool:=
  bnd ((bif (a_p0.Name.toList==b_p1.Name.toList) then (bif ((a_p0.Version.Major==b_p1.Version.Major)&&((a_p0.Version.Minor==b_p1.Version.Minor)&&((a_p0.Version.Patch==b_p1.Version.Patch)&&true))) then (some ((aP a_p0.Data).toList==(aP b_p1.Data).toList)) else (some false)) else (some false):Option Bool)) fun o1=>some o1
theorem lI {a_p0 b_p1 A1 c1 A2 c2 r} (h:uE a_p0 b_p1=some r):
    Fun Tryz.prog 28 [.agg (yV a_p0 A1 c1).toArray, .agg (yV b_p1 A2 c2).toArray] [.ro (SlL eu8 A1 c1 a_p0.Data), .ro (SlL eu8 A2 c2 b_p1.Data)] (Val (.bool r)):=by
 refine Fun.intro Tryz.func28 rfl rfl rfl fun w R=>?_;refine .seq<|.region<|.box rfl rfl fun g1=>.box rfl rfl fun g2=>.b [2,3] rfl<|.seq<|.bd h fun o1 hj1 h=>.cu 4 [.s 4 (.bool o1)] [] rfl rfl ?_ ?_
 ·refine .region<|.p rfl rfl<|.lb 0 1 rfl<|.p rfl rfl<|.lb 0 0 rfl<|.n 2 rfl<|.gs 10 hj1 rfl (fun hj1=>?_) (fun hj1=>?_)
  ·refine .n 1 rfl<|.gOn rfl rfl<|.lb 1 1 rfl<|.n 1 rfl<|.gOn rfl rfl<|.lb 1 0 rfl<|.n 3 rfl<|.gs 17 hj1 rfl (fun hj1=>?_) (fun hj1=>?_)
   ·refine .n 1 rfl<|.gOn rfl rfl<|.lb 4 1 rfl<|.gOn rfl rfl<|.b2s rfl rfl rfl rfl rfl rfl rfl rfl rfl (iJ (E:=eu8) (.tail _ (.tail _ (.head _))))<|.n 1 rfl<|.gOn rfl rfl<|.lb 4 0 rfl<|.gOn rfl rfl<|.b2s rfl rfl rfl rfl rfl rfl rfl rfl rfl (iJ (E:=eu8) (.tail _ (.tail _ (.tail _ (.head _))))) ?_;cases hj1;exact .be rfl<|.hU rfl (zl [] 4 rfl)
   cases hj1;exact .be rfl<|.hU rfl (zl [] 4 rfl)
  cases hj1;exact .be rfl<|.hU rfl (zl [] 4 rfl)
 cases h;exact .rv rfl rfl ⟨rfl,rfl⟩ zw
theorem zXc:Ent Tryz.prog 83:=en Tryz.func83 (by kernel_rfl)
noncomputable def gC (a_p0:zB) (b_p1:zB):Option Bool:=
  bnd ((bif !(a_p0.Name.toList==b_p1.Name.toList) then (some true) else (bif (a_p0.Active != b_p1.Active) then (some true) else (bif (a_p0.Running != b_p1.Running) then (some true) else (some (!(a_p0.Trial==b_p1.Trial))))):Option Bool)) fun o1=>bif o1 then (some false) else (bnd ((bif (a_p0.Slots.e0.Sum != b_p1.Slots.e0.Sum) then (some true) else (bnd (uE a_p0.Slots.e0.Image b_p1.Slots.e0.Image) fun r1=>some (!r1)):Option Bool)) fun o2=>bif o2 then (some false) else (bnd ((bif (a_p0.Slots.e1.Sum != b_p1.Slots.e1.Sum) then (some true) else (bnd (uE a_p0.Slots.e1.Image b_p1.Slots.e1.Image) fun r2=>some (!r2)):Option Bool)) fun o3=>bif o3 then (some false) else (some true)))
theorem zIp {a_p0 b_p1 A1 c1 A2 c2 A3 c3 A4 c4 r} (h:gC a_p0 b_p1=some r):
    Fun Tryz.prog 83 [.agg (zL a_p0 A1 c1 A2 c2).toArray, .agg (zL b_p1 A3 c3 A4 c4).toArray] [.ro (SlL eu8 A1 c1 a_p0.Slots.e0.Image.Data), .ro (SlL eu8 A2 c2 a_p0.Slots.e1.Image.Data), .ro (SlL eu8 A3 c3 b_p1.Slots.e0.Image.Data), .ro (SlL eu8 A4 c4 b_p1.Slots.e1.Image.Data)] (Val (.bool r)):=by
 refine Fun.intro Tryz.func83 rfl rfl rfl fun w R=>?_;refine .seq<|.region<|.box rfl rfl fun g1=>.box rfl rfl fun g2=>.b [2,3] rfl<|.seq<|.seq<|.bd h fun o1 hj1 h=>.cu 0 [2,3, .s 31 (.bool o1)] [] rfl rfl ?_ ?_
 ·refine .region<|.p rfl rfl<|.lb 0 1 rfl<|.p rfl rfl<|.lb 0 0 rfl<|.n 2 rfl<|.gs 11 hj1 rfl (fun hj1=>?_) (fun hj1=>?_)
  ·cases hj1;exact .be rfl<|.hU rfl zw
  refine .n 1 rfl<|.gOn rfl rfl<|.lb 13 1 rfl<|.n 1 rfl<|.gOn rfl rfl<|.lb 13 0 rfl<|.n 3 rfl<|.gs 18 hj1 rfl (fun hj1=>?_) (fun hj1=>?_)
  ·cases hj1;exact .be rfl<|.hU rfl zw
  refine .n 1 rfl<|.gOn rfl rfl<|.lb 14 1 rfl<|.n 1 rfl<|.gOn rfl rfl<|.lb 14 0 rfl<|.n 3 rfl<|.gs 25 hj1 rfl (fun hj1=>?_) (fun hj1=>?_)
  ·cases hj1;exact .be rfl<|.hU rfl zw
  refine .n 1 rfl<|.gOn rfl rfl<|.lb 15 1 rfl<|.n 1 rfl<|.gOn rfl rfl<|.lb 15 0 rfl ?_;cases hj1;exact .be rfl<|.hU rfl zw
 refine .cb h rfl (fun h=>?_) (fun h=>?_)
 ·refine .abf [4] [] 6 rfl rfl ?_;cases h;exact .rv rfl rfl ⟨rfl,rfl⟩ zw
 refine .sk<|.pr [2,3] rfl<|.seq<|.ae rfl<|.block<|.rounds 9<|.round<|.seq<|.ab [2,3,5,33] rfl<|.condT rfl<|.sk<|.pr [2,3,5] rfl<|.seq<|.block<|.seq<|.bd h fun o2 hj2 h=>.cu 0 [2,3,5, .s 60 (.bool o2)] [] rfl rfl ?_ ?_
 ·refine .regionF mixed (by kernel_rfl)<|.n 4 rfl<|.lb 6 1 rfl<|.n 4 rfl<|.lb 6 0 rfl<|.n 2 rfl<|.gs 47 hj2 rfl (fun hj2=>?_) (fun hj2=>?_)
  ·cases hj2;exact .beq rfl<|.hU rfl zw
  refine .n 4 rfl<|.gOn rfl rfl<|.lb 1 1 rfl<|.n 4 rfl<|.gOn rfl rfl<|.lb 1 0 rfl<|.gOn rfl rfl<|.bd hj2 fun r1 hr1 hj2=>.cv [2,4] (lI hr1) zQf rfl ?_;cases hj2;exact .beq rfl<|.hU rfl zw
 refine .cb h rfl (fun h=>?_) (fun h=>?_)
 ·refine .abf [4] [] 6 rfl rfl ?_;cases h;exact .rv rfl rfl ⟨rfl,rfl⟩ zw
 refine .skip<|.blkN<|.thenN<|.pr [2,3,5] rfl<|.region<|.be rfl<|.round<|.pr [2,3,5] rfl<|.seq<|.ab [2,3,5,33] rfl<|.condT rfl<|.sk<|.pr [2,3,5] rfl<|.seq<|.block<|.seq<|.bd h fun o3 hj3 h=>.cu 0 [2,3,5, .s 60 (.bool o3)] [] rfl rfl ?_ ?_
 ·refine .regionF mixed (by kernel_rfl)<|.n 4 rfl<|.lb 12 1 rfl<|.n 4 rfl<|.lb 12 0 rfl<|.n 2 rfl<|.gs 47 hj3 rfl (fun hj3=>?_) (fun hj3=>?_)
  ·cases hj3;exact .beq rfl<|.hU rfl zw
  refine .n 4 rfl<|.gOn rfl rfl<|.lb 7 1 rfl<|.n 4 rfl<|.gOn rfl rfl<|.lb 7 0 rfl<|.gOn rfl rfl<|.bd hj3 fun r2 hr2 hj3=>.cv [3,5] (lI hr2) zQf rfl ?_;cases hj3;exact .beq rfl<|.hU rfl zw
 refine .cb h rfl (fun h=>?_) (fun h=>?_)
 ·refine .abf [4] [] 6 rfl rfl ?_;cases h;exact .rv rfl rfl ⟨rfl,rfl⟩ zw
 refine .skip<|.blkN<|.thenN<|.pr [2,3,5] rfl<|.region<|.be rfl<|.round<|.pr [2,3,5] rfl<|.seq<|.ab [2,3,5,33] rfl<|.condF rfl<|.xq rfl<|.thenN<|.pf [] [] 6 rfl rfl<|.ae rfl ?_;cases h;exact .rv rfl rfl ⟨rfl,rfl⟩ zw
theorem zWB:Ent Tryz.prog 23:=en Tryz.func23 (by kernel_rfl)
noncomputable def pL (a_p0:(List zB)) (b_p1:(List zB)):Option Bool:=
  bif ((a_p0.length:Int) != (b_p1.length:Int)) then (some false) else (bnd (yD (τ:=Bool ⊕ Unit) (fun (s1:Int)=>bif decide (s1<(a_p0.length:Int)) then (bnd (elt a_p0 s1) fun x1=>bnd (elt b_p1 s1) fun x2=>bnd (gC x1 x2) fun r1=>bif !r1 then (some (.done (.inl false))) else (some (.next (IntKind.wrap .i64 (s1+1))))) else (some (.done (.inr ())))) 0) fun o1=>wP o1 fun o2=>some true)
theorem zDZ {a_p0 b_p1 A1 c1 A2 c2 r} (h:pL a_p0 b_p1=some r):
    Fun Tryz.prog 23 [.slice A1 a_p0.length c1, .slice A2 b_p1.length c2] [.ro (Sl (yL zF) A1 c1 a_p0), .ro (Sl (yL zF) A2 c2 b_p1)] (Val (.bool r)):=by
 refine Fun.intro Tryz.func23 rfl rfl rfl fun w R=>?_;refine .ab [0,1] rfl<|.seq<|.ab [0,1,10] rfl<|.cb h rfl (fun h=>?_) (fun h=>?_)
 ·refine .abf [4] [] 2 rfl rfl ?_;cases h;exact .rv rfl rfl ⟨rfl,rfl⟩ zw
 refine .sk<|.pr [0,1] rfl<|.seq<|.ae rfl<|.bd h fun o1 hl1 h=>.cutJ 2 (fun (o2:Unit) (e2:Unit)=>[]) (fun o2 e2=>[]) rfl rfl (fun o2=>o1= .inr o2) ?_ ?_
 ·refine .block<|.loopQ hl1 0 (fun (s1:Int) (e1:Unit)=>[0,1, .s 5 (.int .i64 s1)]) (fun s1 e1=>[]) rfl rfl () (zb rfl) (fun _ w=>w) ?_;rintro s1 e1 st1 hm1 hd1 h1;refine .seq<|.ab [0,1,5,14] rfl<|.cb h1 rfl (fun h1=>?_) (fun h1=>?_)
  ·refine .sk<|.pr [0,1,5] rfl<|.seq<|.block<|.seq<|.regionF mixed (by kernel_rfl)<|.n 2 rfl<|.bd h1 fun x1 hx1 h1=>.ix3 hx1 0 rfl fun b1 ob1 ex1=>?_;obtain ⟨⟨A3,c3⟩,⟨⟨A4,c4⟩,_⟩⟩:=ex1;refine .nm 5 rfl<|.ld ob1 0 0 rfl<|.n 2 rfl<|.bd h1 fun x2 hx2 h1=>.ix3 hx2 4 rfl fun b2 ob2 ex2=>?_;obtain ⟨⟨A5,c5⟩,⟨⟨A6,c6⟩,_⟩⟩:=ex2;refine .nm 8 rfl<|.ld ob2 0 0 rfl<|.bd h1 fun r1 hr1 h1=>.cv [4,5,1,2] (zIp hr1) zXc rfl<|.beq rfl<|.pf [0,1,5,26] [] 6 rfl rfl<|.cb h1 rfl (fun h1=>?_) (fun h1=>?_)
   ·refine .abf [4] [] 2 rfl rfl ?_;cases h1;cases hd1 _ rfl
    have h:some _=some _:=h;cases h;exact .rv rfl rfl ⟨rfl,rfl⟩ zw
   refine .skip<|.blkN<|.thenN<|.pr [0,1,5] rfl<|.region ?_;cases h1;exact .be rfl<|.ag () hm1 rfl zw
  refine .xq rfl ?_;cases h1;cases hd1 _ rfl
  exact .thenN<|.hereI () () rfl trivial (zl [] 2 rfl)
 rintro o2 e2 ho;subst ho;have h:=unR h;refine .ae rfl ?_;cases h;exact .rv rfl rfl ⟨rfl,rfl⟩ zw
end Go.Proofs.YtplchdlgdjcojaaGreatDoor
end
section
namespace Go.Proofs.YtplchdlgdjcojaaGreatDoor
open Go
set_option linter.unusedVariables false
set_option maxHeartbeats 4000000
set_option maxRecDepth 4000
noncomputable def mI (codes:(List Int)) (fails:(List Bool)):Option Bool:=
  bnd (jE) fun r1=>bif !r1 then (some false) else (bnd (fW codes 200) fun r2=>bnd (sU r2 5) fun r3=>bnd (jF r3.1 r3.2) fun r4=>bnd (mQ 2 1024) fun r5=>zJz r5.1 (none) (fun q1=>bnd (wQ q1 0) fun r6=>zJz r6.2.1 (bnd ((bif (r5.2 != 0) then (some true) else (some (r6.2.2 != 0)):Option Bool)) fun o1=>bif o1 then (some false) else (none)) (fun q2=>bnd ((bif (r5.2 != 0) then (some true) else (some (r6.2.2 != 0)):Option Bool)) fun o2=>bif o2 then (some false) else (bnd (tZ q2 r3.2 r4.2 r6.1) fun r7=>zJz r7.2.2.1 (bnd (pS r4.1 r3.2 r4.2) fun r8=>bnd ((bif (r7.2.2.2 != 0) then (some ()) else (some ()):Option Unit)) fun o3=>some false) (fun q3=>bnd (pS r4.1 r3.2 r4.2) fun r9=>bnd ((bif (r7.2.2.2 != 0) then (some true) else (some false):Option Bool)) fun o4=>bif o4 then (some false) else (bnd (xR q3 (r9.2.length:Int) 64) fun r10=>bif (r10.2 != 0) then (some ((r9.2.length:Int)==0)) else (bnd (yD (τ:=Bool ⊕ zC) (fun (s1:zC × Int)=>bif decide ((IntKind.wrap .i64 (s1.2*64))<(r9.2.length:Int)) then (bnd (sub r9.2 (IntKind.wrap .i64 (s1.2*64)) (min (r9.2.length:Int) (IntKind.wrap .i64 ((IntKind.wrap .i64 (s1.2+1))*64)))) fun l1=>bnd (wY s1.1 s1.2 l1) fun r11=>bif (r11.2 != 0) then (some (.done (.inl false))) else (some (.next (r11.1,IntKind.wrap .i64 (s1.2+1))))) else (some (.done (.inr s1.1)))) (r10.1,0)) fun o5=>wP o5 fun o6=>bnd (pK r9.2) fun r12=>bnd (xX o6 r7.1 r7.2.1) fun r13=>bif (r13.2.2.2 != 0) then (bnd ((bnd (xQ r13.1) fun r14=>bif (r14==1) then (bnd (uD r13.1) fun r15=>bnd (pL r15 r3.2) fun r16=>some r16) else (some false):Option Bool)) fun o7=>some o7) else (bnd (yD (τ:=Bool ⊕ (zA × zD × zC × Bool)) (fun (s2:zA × zD × zC × Bool × Int)=>bnd (xQ s2.2.2.1) fun r17=>bif (r17 != 0) then (bnd ((bif decide (s2.2.2.2.2≥(fails.length:Int)) then (some true) else (bnd (elt fails s2.2.2.2.2) fun x1=>some (!x1)):Option Bool)) fun o10=>bnd ((bif s2.2.2.2.1 then (some true) else (bnd (xQ s2.2.2.1) fun r18=>bif (r18==2) then (some (!o10)) else (some false)):Option Bool)) fun o11=>bnd (yY s2.2.2.1 o10 s2.2.1 s2.1) fun r19=>bnd ((bif (r19.2.2.2.2 != 0) then (some true) else (some (decide (s2.2.2.2.2>(IntKind.wrap .i64 (2*(r3.2.length:Int)))))):Option Bool)) fun o12=>bif o12 then (some (.done (.inl false))) else (some (.next (r19.2.2.1,r19.2.1,r19.1,o11,IntKind.wrap .i64 (s2.2.2.2.2+1))))) else (some (.done (.inr (s2.1,s2.2.1,s2.2.2.1,s2.2.2.2.1))))) (r13.2.2.1,r13.2.1,r13.1,false,0)) fun o8=>wP o8 fun o9=>bnd (uD o9.2.2.1) fun r20=>bnd (yD (τ:=Bool ⊕ Unit) (fun (s3:Int)=>bif decide (s3<(r20.length:Int)) then (bnd (elt r20 s3) fun x2=>bnd (elt r3.2 s3) fun x3=>bnd (tV r12.1 x2.Name) fun r21=>bnd ((bnd ((bif !o9.2.2.2 then (bif decide (r21≥0) then (bif decide (r21<(r12.1.Images.length:Int)) then (bnd (elt r12.1.Images r21) fun x4=>some (!((x4.Version.Major==x3.Slots.e0.Image.Version.Major)&&((x4.Version.Minor==x3.Slots.e0.Image.Version.Minor)&&((x4.Version.Patch==x3.Slots.e0.Image.Version.Patch)&&true))))) else (some false)) else (some false)) else (some false):Option Bool)) fun o16=>bif o16 then (bnd (elt r12.1.Images r21) fun x5=>some x5) else (some x3.Slots.e0.Image):Option zH)) fun o15=>bnd ((bnd (vZ x2) fun r22=>bif !r22 then (some true) else (bnd (elt [x2.Slots.e0,x2.Slots.e1] x2.Running) fun x6=>bnd (uE x6.Image o15) fun r23=>some (!r23)):Option Bool)) fun o17=>bif o17 then (some (.done (.inl false))) else (some (.next (IntKind.wrap .i64 (s3+1))))) else (some (.done (.inr ())))) 0) fun o13=>wP o13 fun o14=>some (r12.2==0)))))))))
theorem zAV {codes fails A1 c1 A2 c2 r} (h:mI codes fails=some r):
    Fun Tryz.prog 3 [.slice A1 codes.length c1, .slice A2 fails.length c2] [.ro (SlL eu8 A1 c1 codes), .ro (SlL yT A2 c2 fails), .ro (zFi 0 [(2,some 315),(3,some 316)])] (Val (.bool r)):=by
 refine Fun.intro Tryz.func3 rfl rfl rfl fun w R=>?_;refine .ab [0,1] rfl<|.seq<|.seq<|.region<|.bd h fun r1 hr1 h=>.cv [2] (zGP hr1) zXb rfl<|.b [0,1,29] rfl<|.cb h rfl (fun h=>?_) (fun h=>?_)
 ·refine .abf [4] [] 2 rfl rfl ?_;cases h;exact .rv rfl rfl ⟨rfl,rfl⟩ (zl [] 1 rfl)
 refine .sk<|.pr [0,1] rfl<|.a 1 rfl<|.bd h fun r2 hr2 h=>.call (zLg hr2) zWJ rfl rfl rfl (zd [0] [] 0 rfl) ?_;rintro _ _ ⟨g1,A3,c3,rfl,rfl⟩;refine .nm 5 rfl<|.bf [1,5] [0,0] 1 rfl rfl<|.a 1 rfl<|.bd h fun r3 hr3 h=>.ct 6 [1] [1] 0 (bP hr3) zWU rfl fun A4 c4 A5 c5=>.bf [1,5,6] [0,0,0] 1 rfl rfl<|.a 2 rfl<|.asrt (fun _ w=>(w.sl [2] 0 rfl).meltC)<|.bd h fun r4 hr4 h=>.ct 7 [2,1] [2] 0 (zGU hr4) zWt rfl fun A6 c6 A7 c7=>.bf [1,5,6,7] [0,0,0,0] 1 rfl rfl<|.seq<|.region<|.bd h fun r5 hr5 h=>.call (zDS hr5) zUv rfl rfl rfl (fun _ w=>w) ?_
 intro v_ F_ hp_
 rcases hq1:r5.1 with _ | q1
 ·replace hp_:=zCS hq1 hp_;replace h:=zCN hq1 h;obtain ⟨rfl,rfl⟩:=hp_;refine .nm 6 rfl<|.b [1,5,6,7,8,9] rfl<|.a 1 rfl ?_;cases h
 replace hp_:=zDi hq1 hp_;replace h:=zDq hq1 h;obtain ⟨g2,A8,c8,A9,c9,rfl,rfl⟩:=hp_;refine .nm 9 rfl<|.b [1,5,6,7,8,9] rfl<|.a 1 rfl<|.bd h fun r6 hr6 h=>.call (bF hr6) zUk rfl rfl rfl (fun _ w=>w) ?_
 intro v_ F_ hp_
 rcases hq2:r6.2.1 with _ | q2
 ·replace hp_:=zCS hq2 hp_;replace h:=zCN hq2 h;obtain ⟨A10,c10,A11,c11,rfl,rfl⟩:=hp_;refine .nm 9 rfl<|.bf [1,5,6,7,9,10,11] [] 3 rfl rfl<|.seq<|.seq<|.bd h fun o1 hj1 h=>.cutK 0 (fun (e1:Unit)=>[1,5,6,7,10, .s 51 (.bool o1)]) (fun e1=>[]) rfl rfl ?_ ?_
  ·refine .region<|.n 3 rfl<|.gs 48 hj1 rfl (fun hj1=>?_) (fun hj1=>?_)
   ·cases hj1;exact .be rfl<|.hU rfl zw
   cases hj1;exact .be rfl<|.hU rfl zw
  rintro e1;refine .cb h rfl (fun h=>?_) (fun h=>?_)
  ·refine .abf [4] [] 5 rfl rfl ?_;cases h;exact .rv rfl rfl ⟨rfl,rfl⟩ (zl [] 1 rfl)
  refine .sk<|.pr [1,5,6,7,10] rfl<|.a 3 rfl ?_;cases h
 replace hp_:=zDi hq2 hp_;replace h:=zDq hq2 h;obtain ⟨g3,A12,c12,A13,c13,M1,rfl,rfl⟩:=hp_;refine .nm 11 rfl<|.b [1,5,6,7,9,10,11] rfl<|.seq<|.seq<|.bd h fun o2 hj2 h=>.cu 0 [1,5,6,7,10, .s 51 (.bool o2)] [] rfl rfl ?_ ?_
 ·refine .region<|.n 3 rfl<|.gs 48 hj2 rfl (fun hj2=>?_) (fun hj2=>?_)
  ·cases hj2;exact .be rfl<|.hU rfl zw
  cases hj2;exact .be rfl<|.hU rfl zw
 refine .cb h rfl (fun h=>?_) (fun h=>?_)
 ·refine .abf [4] [] 10 rfl rfl ?_;cases h;exact .rv rfl rfl ⟨rfl,rfl⟩ (zl [] 1 rfl)
 refine .sk<|.pr [1,5,6,7,10] rfl<|.a 3 rfl<|.asrt (fun _ w=>(w.sl [7] 0 rfl).meltL)<|.bd h fun r7 hr7 h=>.call (zAR (gb1:=g3) (gb2:=g2) hr7) zUm rfl rfl rfl (zd [8,5,10] [4,4,1,1,1] 0 rfl) ?_
 intro v_ F_ hp_
 rcases hq3:r7.2.2.1 with _ | q3
 ·replace hp_:=zCS hq3 hp_;replace h:=zCN hq3 h;obtain ⟨M2,A14,c14,A15,c15,rfl,rfl⟩:=hp_;refine .nm 11 rfl<|.bf [1,5,6,7,12,13] [] 5 rfl rfl<|.a 3 rfl<|.bd h fun r8 hr8 h=>.ct 8 [2,3,1] [2] 0 (zAO hr8) zUr rfl fun A23 c23 A24 c24=>.bf [1,6,12,13,14] [2] 4 rfl rfl<|.seq<|.seq<|.bd h fun o3 hj3 h=>.cu 0 [1,6,12,14, .s 68 (.bool true)] [] rfl rfl ?_ ?_
  ·refine .region<|.n 3 rfl<|.gs 65 hj3 rfl (fun hj3=>?_) (fun hj3=>?_)
   ·cases hj3;exact .be rfl<|.hU rfl zw
   cases hj3;exact .be rfl<|.hU rfl zw
  refine .condT rfl<|.abf [4] [] 3 rfl rfl ?_;cases h;exact .rv rfl rfl ⟨rfl,rfl⟩ (zl [] 1 rfl)
 replace hp_:=zDi hq3 hp_;replace h:=zDq hq3 h;obtain ⟨g4,M3,A16,c16,A17,c17,A18,c18,A19,c19,A20,c20,A21,c21,A22,c22,rfl,rfl⟩:=hp_;refine .nm 17 rfl<|.b [1,5,6,7,12,13] rfl<|.a 3 rfl<|.bd h fun r9 hr9 h=>.ct 19 [13,14,12] [13] 0 (zAO hr9) zUr rfl fun A25 c25 A26 c26=>.bf [1,6,12,13,14] [2,2,2,2,2,2,2,2,2,2,2,2] 4 rfl rfl<|.seq<|.seq<|.bd h fun o4 hj4 h=>.cu 0 [1,6,12,14, .s 68 (.bool o4)] [] rfl rfl ?_ ?_
 ·refine .region<|.n 3 rfl<|.gs 65 hj4 rfl (fun hj4=>?_) (fun hj4=>?_)
  ·cases hj4;exact .be rfl<|.hU rfl zw
  cases hj4;exact .be rfl<|.hU rfl zw
 refine .cb h rfl (fun h=>?_) (fun h=>?_)
 ·refine .abf [4] [] 14 rfl rfl ?_;cases h;exact .rv rfl rfl ⟨rfl,rfl⟩ (zl [] 1 rfl)
 refine .sk<|.pr [1,6,12,14] rfl<|.seq<|.a 3 rfl<|.bd h fun r10 hr10 h=>.call (jV (gb1:=g4) hr10) zUq rfl rfl rfl (zd [3,4,5,6,14] [10,10] 0 rfl) ?_;rintro _ _ ⟨A27,c27,A28,c28,A29,c29,A30,c30,A31,c31,rfl,rfl⟩;refine .nm 19 rfl<|.bf [1,6,12,14,73] [0,0,0,0,0,0,0] 4 rfl rfl<|.cb h rfl (fun h=>?_) (fun h=>?_)
 ·refine .abf [4] [] 14 rfl rfl ?_;cases h;exact .rv rfl rfl ⟨rfl,rfl⟩ (zl [] 1 rfl)
 refine .sk<|.pr [1,6,12,14] rfl<|.seq<|.ae rfl<|.asrt (fun _ w=>(w.sl [6] 0 rfl).meltL)<|.bd h fun o5 hl1 h=>.cutJ 7 (fun (o6:zC) (e6:Option Addr × Nat × Option Addr × Nat × Option Addr × Nat × Option Addr × Nat × Option Addr × Nat)=>[1,6,12,14]) (fun o6 e6=>[.ro (SlL yF e6.2.2.2.2.2.2.2.2.1 e6.2.2.2.2.2.2.2.2.2 o6.order), .ro (SlL eu8 e6.2.2.2.2.2.2.1 e6.2.2.2.2.2.2.2.1 o6.load.Data), .ro (SlL yT e6.2.2.2.2.1 e6.2.2.2.2.2.1 o6.load.Have), .ro (SlL zQ e6.2.2.1 e6.2.2.2.1 o6.needs), .res (xN (yL zF) 64 e6.1 e6.2.1 o6.devices),0, .res (Box g4 144 (zI o6 g3 e6.1 e6.2.1 e6.2.2.1 e6.2.2.2.1 e6.2.2.2.2.1 e6.2.2.2.2.2.1 e6.2.2.2.2.2.2.1 e6.2.2.2.2.2.2.2.1 e6.2.2.2.2.2.2.2.2.1 e6.2.2.2.2.2.2.2.2.2))]) rfl rfl (fun o6=>o5= .inr o6) ?_ ?_
 ·refine .block<|.loopQ hl1 7 (fun (s1:zC × Int) (e5:Option Addr × Nat × Option Addr × Nat × Option Addr × Nat × Option Addr × Nat × Option Addr × Nat)=>[1,6,12,14, .s 15 (.int .i64 s1.2)]) (fun s1 e5=>[.ro (SlL yF e5.2.2.2.2.2.2.2.2.1 e5.2.2.2.2.2.2.2.2.2 s1.1.order), .ro (SlL eu8 e5.2.2.2.2.2.2.1 e5.2.2.2.2.2.2.2.1 s1.1.load.Data), .ro (SlL yT e5.2.2.2.2.1 e5.2.2.2.2.2.1 s1.1.load.Have), .ro (SlL zQ e5.2.2.1 e5.2.2.2.1 s1.1.needs), .res (xN (yL zF) 64 e5.1 e5.2.1 s1.1.devices),0, .res (Box g4 144 (zI s1.1 g3 e5.1 e5.2.1 e5.2.2.1 e5.2.2.2.1 e5.2.2.2.2.1 e5.2.2.2.2.2.1 e5.2.2.2.2.2.2.1 e5.2.2.2.2.2.2.2.1 e5.2.2.2.2.2.2.2.2.1 e5.2.2.2.2.2.2.2.2.2))]) rfl rfl (A27,c27,A28,c28,A29,c29,A30,c30,A31,c31) (zb rfl) (zl [4,3,2,1,2] 0 rfl) ?_;rintro s1 ⟨A32,c32,A33,c33,A34,c34,A35,c35,A36,c36⟩ st1 hm1 hd1 h1;refine .seq<|.ab [1,6,12,14,15,81] rfl<|.cb h1 rfl (fun h1=>?_) (fun h1=>?_)
  ·refine .sk<|.pr [1,6,12,14,15] rfl<|.seq<|.block<|.a 11 rfl<|.bd h1 fun l1 hl1 h1=>.sub (E:=(cod eu8)) rfl rfl (zm 5 rfl) rfl rfl rfl rfl rfl rfl rfl hl1 fun A42 c42=>.bd h1 fun r11 hr11 h1=>.call (nL (gb1:=g4) hr11) zRp rfl rfl rfl (zd [6,5,4,3,2] [7,5] 0 rfl) ?_;rintro _ _ ⟨A43,c43,A44,c44,A45,c45,A46,c46,A47,c47,rfl,rfl⟩;refine .nm 20 rfl<|.bf [1,6,12,14,15,97] [0,0,0,0,0,0] 5 rfl rfl<|.cb h1 rfl (fun h1=>?_) (fun h1=>?_)
   ·refine .abf [4] [] 14 rfl rfl ?_;cases h1;cases hd1 _ rfl
    have h:some _=some _:=h;cases h;exact .rv rfl rfl ⟨rfl,rfl⟩ (zl [] 1 rfl)
   refine .skip<|.blkN<|.thenN<|.pr [1,6,12,14,15] rfl<|.region ?_;cases h1;exact .be rfl<|.ag (A43,c43,A44,c44,A45,c45,A46,c46,A47,c47) hm1 rfl (zl [3,2,1,0,1,1] 0 rfl)
  refine .xq rfl ?_;cases h1;cases hd1 _ rfl
  exact .thenN<|.hereI s1.1 (A32,c32,A33,c33,A34,c34,A35,c35,A36,c36) rfl (zb rfl) zw
 rintro o6 ⟨A37,c37,A38,c38,A39,c39,A40,c40,A41,c41⟩ ho;subst ho;have h:=unR h;refine .a 1 rfl<|.bd h fun r12 hr12 h=>.ct 17 [5] [] 0 (bE hr12) zUz rfl fun A48 c48 A49 c49=>.n 3 rfl<|.alloc rfl rfl fun g5=>.sb 0 0 rfl<|.bf [1,6,12,16,17] [0,0,0,0,0,0,0,0] 1 rfl rfl<|.seq<|.a 1 rfl<|.bd h fun r13 hr13 h=>.call (kL (gb1:=g4) (gb2:=g3) (gb3:=g2) hr13) zUh rfl rfl rfl (zd [13,12,11,10] [8,7,7,7,7,7,7] 0 rfl) ?_;rintro _ _ ⟨A50,c50,A51,c51,A52,c52,A53,c53,A54,c54,M4,A55,c55,A56,c56,rfl,rfl⟩;refine .nm 21 rfl<|.bf [1,6,12,16,17,18] [0,0,0,0,0,0,0,0,0,0,0,0,0,0] 4 rfl rfl<|.ab [1,6,12,16,17,106] rfl<|.cb h rfl (fun h=>?_) (fun h=>?_)
 ·refine .seq<|.bd h fun o7 hj5 h=>.cu 16 [.s 4 (.bool o7)] [] rfl rfl ?_ ?_
  ·refine .region<|.p rfl rfl<|.bd hj5 fun r14 hr14 hj5=>.cq 17 [2,3,4,5] [4,4] 0 (rJ (gb1:=g4) hr14) zNu rfl<|.n 2 rfl<|.gs 110 hj5 rfl (fun hj5=>?_) (fun hj5=>?_)
   ·refine .n 1 rfl<|.gOn rfl rfl<|.bd hj5 fun r15 hr15 hj5=>.cr 18 [2,3,4,5] [] 0 (lB (gb1:=g4) hr15) zUB rfl fun A57 c57=>.n 1 rfl<|.gOn rfl rfl<|.asrt (fun _ w=>(w.sl [2] 0 rfl).meltC)<|.bd hj5 fun r16 hr16 hj5=>.cv [0,15] (zDZ hr16) zWB rfl ?_;cases hj5;exact .be rfl<|.hU rfl (zl [] 17 rfl)
   cases hj5;exact .be rfl<|.hU rfl (zl [] 16 rfl)
  cases h;exact .rv rfl rfl ⟨rfl,rfl⟩ (zl [] 1 rfl)
 refine .sk<|.pr [1,6,12,16,17] rfl<|.ae rfl<|.seq<|.ae rfl<|.bd h fun o8 hl2 h=>.cutJ 16 (fun (o9:zA × zD × zC × Bool) (e9:Option Addr × Nat × Option Addr × Nat × Option Nat × Option Addr × Nat × Option Addr × Nat × Option Addr × Nat × Option Addr × Nat × Option Addr × Nat)=>[6,12,16,17, .s 19 (.bool o9.2.2.2)]) (fun o9 e9=>[.ro (SlL yF e9.2.2.2.2.2.2.2.2.2.2.2.2.2.1 e9.2.2.2.2.2.2.2.2.2.2.2.2.2.2 o9.2.2.1.order), .ro (SlL eu8 e9.2.2.2.2.2.2.2.2.2.2.2.1 e9.2.2.2.2.2.2.2.2.2.2.2.2.1 o9.2.2.1.load.Data), .ro (SlL yT e9.2.2.2.2.2.2.2.2.2.1 e9.2.2.2.2.2.2.2.2.2.2.1 o9.2.2.1.load.Have), .ro (SlL zQ e9.2.2.2.2.2.2.2.1 e9.2.2.2.2.2.2.2.2.1 o9.2.2.1.needs), .res (xN (yL zF) 64 e9.2.2.2.2.2.1 e9.2.2.2.2.2.2.1 o9.2.2.1.devices), .res (yN (yC .u8) (cod eu8) e9.2.2.2.2.1 o9.2.1.all), .res (zN yF 3 e9.2.2.1 e9.2.2.2.1 o9.1.wear), .res (zN eu8 5 e9.1 e9.2.1 o9.1.bytes), .res (Box g4 144 (zI o9.2.2.1 g3 e9.2.2.2.2.2.1 e9.2.2.2.2.2.2.1 e9.2.2.2.2.2.2.2.1 e9.2.2.2.2.2.2.2.2.1 e9.2.2.2.2.2.2.2.2.2.1 e9.2.2.2.2.2.2.2.2.2.2.1 e9.2.2.2.2.2.2.2.2.2.2.2.1 e9.2.2.2.2.2.2.2.2.2.2.2.2.1 e9.2.2.2.2.2.2.2.2.2.2.2.2.2.1 e9.2.2.2.2.2.2.2.2.2.2.2.2.2.2)), .res (Box g3 135 (zO o9.2.1 g2 e9.2.2.2.2.1)), .res (Box g2 131 (zG o9.1 e9.1 e9.2.1 e9.2.2.1 e9.2.2.2.1)),11,12,13,14]) rfl rfl (fun o9=>o8= .inr o9) ?_ ?_
 ·refine .block<|.loopQ hl2 11 (fun (s2:zA × zD × zC × Bool × Int) (e8:Option Addr × Nat × Option Addr × Nat × Option Nat × Option Addr × Nat × Option Addr × Nat × Option Addr × Nat × Option Addr × Nat × Option Addr × Nat)=>[1,6,12,16,17, .s 19 (.bool s2.2.2.2.1), .s 20 (.int .i64 s2.2.2.2.2)]) (fun s2 e8=>[.ro (SlL yF e8.2.2.2.2.2.2.2.2.2.2.2.2.2.1 e8.2.2.2.2.2.2.2.2.2.2.2.2.2.2 s2.2.2.1.order), .ro (SlL eu8 e8.2.2.2.2.2.2.2.2.2.2.2.1 e8.2.2.2.2.2.2.2.2.2.2.2.2.1 s2.2.2.1.load.Data), .ro (SlL yT e8.2.2.2.2.2.2.2.2.2.1 e8.2.2.2.2.2.2.2.2.2.2.1 s2.2.2.1.load.Have), .ro (SlL zQ e8.2.2.2.2.2.2.2.1 e8.2.2.2.2.2.2.2.2.1 s2.2.2.1.needs), .res (xN (yL zF) 64 e8.2.2.2.2.2.1 e8.2.2.2.2.2.2.1 s2.2.2.1.devices), .res (yN (yC .u8) (cod eu8) e8.2.2.2.2.1 s2.2.1.all), .res (zN yF 3 e8.2.2.1 e8.2.2.2.1 s2.1.wear), .res (zN eu8 5 e8.1 e8.2.1 s2.1.bytes), .res (Box g4 144 (zI s2.2.2.1 g3 e8.2.2.2.2.2.1 e8.2.2.2.2.2.2.1 e8.2.2.2.2.2.2.2.1 e8.2.2.2.2.2.2.2.2.1 e8.2.2.2.2.2.2.2.2.2.1 e8.2.2.2.2.2.2.2.2.2.2.1 e8.2.2.2.2.2.2.2.2.2.2.2.1 e8.2.2.2.2.2.2.2.2.2.2.2.2.1 e8.2.2.2.2.2.2.2.2.2.2.2.2.2.1 e8.2.2.2.2.2.2.2.2.2.2.2.2.2.2)), .res (Box g3 135 (zO s2.2.1 g2 e8.2.2.2.2.1)), .res (Box g2 131 (zG s2.1 e8.1 e8.2.1 e8.2.2.1 e8.2.2.2.1))]) rfl rfl (A55,c55,A56,c56,M4,A50,c50,A51,c51,A52,c52,A53,c53,A54,c54) (zb rfl) (zl [3,2,1,0,1,2,4,3] 0 rfl) ?_;rintro s2 ⟨A58,c58,A59,c59,M5,A60,c60,A61,c61,A62,c62,A63,c63,A64,c64⟩ st2 hm2 hd2 h2;refine .seq<|.a 1 rfl<|.bd h2 fun r17 hr17 h2=>.cq 17 [5,4,3,2] [8,4] 0 (rJ (gb1:=g4) hr17) zNu rfl<|.b [1,6,12,16,17,19,20,118] rfl<|.cb h2 rfl (fun h2=>?_) (fun h2=>?_)
  ·refine .sk<|.pr [1,6,12,16,17,19,20] rfl<|.seq<|.block<|.seq<|.bd h2 fun o10 hj6 h2=>.cu 0 [1,6,12,16,17,19,20, .s 21 (.bool o10)] [] rfl rfl ?_ ?_
   ·refine .region<|.n 5 rfl<|.gs 125 hj6 rfl (fun hj6=>?_) (fun hj6=>?_)
    ·cases hj6;exact .be rfl<|.hU rfl zw
    refine .n 2 rfl<|.gOn rfl rfl<|.bd hj6 fun x1 hx1 hj6=>.ix1 hx1 15 rfl fun b1 ob1=>.gOn rfl rfl<|.ld ob1 0 0 rfl ?_;cases hj6;exact .be rfl<|.hU rfl (zl [] 1 rfl)
   refine .seq<|.bd h2 fun o11 hj7 h2=>.cu 0 [1,6,12,16,17, .s 19 (.bool o11),20,21] [] rfl rfl ?_ ?_
   ·refine .region<|.n 2 rfl<|.gs 133 hj7 rfl (fun hj7=>?_) (fun hj7=>?_)
    ·cases hj7;exact .be rfl<|.hU rfl zw
    refine .n 1 rfl<|.gOn rfl rfl<|.bd hj7 fun r18 hr18 hj7=>.cq 17 [5,4,3,2] [] 0 (rJ (gb1:=g4) hr18) zNu rfl<|.n 2 rfl<|.gs 137 hj7 rfl (fun hj7=>?_) (fun hj7=>?_)
    ·cases hj7;exact .be rfl<|.hU rfl zw
    cases hj7;exact .be rfl<|.hU rfl zw
   refine .a 2 rfl<|.bd h2 fun r19 hr19 h2=>.call (nM (gb1:=g4) (gb2:=g3) (gb3:=g2) hr19) zQo rfl rfl rfl (zd [10,9,8,7,16] [0,0,7,4,6,5,4] 0 rfl) ?_;rintro _ _ ⟨A72,c72,A73,c73,A74,c74,A75,c75,A76,c76,M7,A77,c77,A78,c78,rfl,rfl⟩;refine .nm 21 rfl<|.bf [1,6,12,16,17,19,20,23] [0,0,0,0,0,0,0,0,0,0,0] 4 rfl rfl<|.seq<|.bd h2 fun o12 hj8 h2=>.cu 0 [1,6,12,16,17,19,20, .s 156 (.bool o12)] [] rfl rfl ?_ ?_
   ·refine .region<|.n 3 rfl<|.gs 150 hj8 rfl (fun hj8=>?_) (fun hj8=>?_)
    ·cases hj8;exact .be rfl<|.hU rfl zw
    cases hj8;exact .be rfl<|.hU rfl zw
   refine .cb h2 rfl (fun h2=>?_) (fun h2=>?_)
   ·refine .abf [4] [] 16 rfl rfl ?_;cases h2;cases hd2 _ rfl
    have h:some _=some _:=h;cases h;exact .rv rfl rfl ⟨rfl,rfl⟩ (zl [] 1 rfl)
   refine .skip<|.blkN<|.thenN<|.pr [1,6,12,16,17,19,20] rfl<|.region ?_;cases h2;exact .be rfl<|.ag (A77,c77,A78,c78,M7,A72,c72,A73,c73,A74,c74,A75,c75,A76,c76) hm2 rfl (zl [3,2,1,0,1,2,4,3] 0 rfl)
  refine .xq rfl ?_;cases h2;cases hd2 _ rfl
  exact .thenN<|.hereI (s2.1,s2.2.1,s2.2.2.1,s2.2.2.2.1) (A58,c58,A59,c59,M5,A60,c60,A61,c61,A62,c62,A63,c63,A64,c64) rfl (zb rfl) (zl [2,2,2,2,1,1,1,1,0,0,0,0,0,0,0] 1 rfl)
 rintro o9 ⟨A65,c65,A66,c66,M6,A67,c67,A68,c68,A69,c69,A70,c70,A71,c71⟩ ho;subst ho;have h:=unR h;refine .seq<|.a 1 rfl<|.bd h fun r20 hr20 h=>.cr 17 [5,4,3,2] [8,4] 0 (lB (gb1:=g4) hr20) zUB rfl fun A79 c79=>.bf [6,16,17,19,158,159,160] [2] 11 rfl rfl<|.bd h fun o13 hl3 h=>.cutJ 5 (fun (o14:Unit) (e14:Unit)=>[17]) (fun o14 e14=>[]) rfl rfl (fun o14=>o13= .inr o14) ?_ ?_
 ·refine .block<|.loopQ hl3 0 (fun (s3:Int) (e13:Unit)=>[6,16,17,19,158,159, .s 160 (.int .i64 s3)]) (fun s3 e13=>[]) rfl rfl () (zb rfl) (fun _ w=>w) ?_;rintro s3 e13 st3 hm3 hd3 h3;refine .ae rfl<|.seq<|.cb h3 rfl (fun h3=>?_) (fun h3=>?_)
  ·refine .sk<|.pr [6,16,17,19,158,159,160] rfl<|.seq<|.block<|.a 1 rfl<|.bd h3 fun x2 hx2 h3=>.ixC hx2 rfl rfl rfl (.head _) rfl rfl rfl rfl rfl fun g6 hA=>?_;subst hA;refine .ldC (ls:=zF) 0 (fun ex=>.agg (zL x2 ex.1.1 ex.1.2 ex.2.1.1 ex.2.1.2).toArray) hx2 rfl rfl (.head _) rfl (fun _=>rfl) fun ex1=>?_;obtain ⟨⟨A80,c80⟩,⟨⟨A81,c81⟩,_⟩⟩:=ex1;refine .nm 8 rfl<|.alloc rfl rfl fun g7=>.p rfl rfl<|.sb 0 0 rfl<|.b [6,16,17,19,24,25,158,159,160] rfl<|.a 2 rfl<|.bd h3 fun x3 hx3 h3=>.ix3 hx3 7 rfl fun b2 ob2 ex2=>?_;obtain ⟨⟨A82,c82⟩,⟨⟨A83,c83⟩,_⟩⟩:=ex2;refine .nm 12 rfl<|.n 3 rfl<|.ld ob2 1 0 rfl<|.alloc rfl rfl fun g8=>.sb 0 0 rfl<|.bf [6,16,17,19,25,26,158,159,160] [0,1] 2 rfl rfl<|.seq<|.region<|.lb 0 6 rfl<|.p rfl rfl<|.lb 0 2 rfl<|.bd h3 fun r21 hr21 h3=>.cv [7,8] (zAM hr21) zUp rfl<|.b [6,16,17,19,25,26,27,158,159,160] rfl<|.seq<|.bd h3 fun o15 hj9 h3=>.cutK 2 (fun (e15:Option Addr × Nat)=>[6,16,17,19,25,26,158,159,160]) (fun e15=>[.ro (SlL eu8 e15.1 e15.2 o15.Data), .res (Box g8 58 (yV o15 e15.1 e15.2))]) rfl rfl ?_ ?_
   ·refine .seq<|.bd hj9 fun o16 hj10 hj9=>.cu 0 [6,16,17,19,25,26,27,158,159,160, .s 199 (.bool o16)] [] rfl rfl ?_ ?_
    ·refine .regionF mixed (by kernel_rfl)<|.n 3 rfl<|.gs 178 hj10 rfl (fun hj10=>?_) (fun hj10=>?_)
     ·refine .n 4 rfl<|.gs 182 hj10 rfl (fun hj10=>?_) (fun hj10=>?_)
      ·refine .n 2 rfl<|.gOn rfl rfl<|.lb 0 6 rfl<|.n 4 rfl<|.gs 189 hj10 rfl (fun hj10=>?_) (fun hj10=>?_)
       ·refine .n 1 rfl<|.gOn rfl rfl<|.lb 0 6 rfl<|.n 1 rfl<|.gOn rfl rfl<|.bd hj10 fun x4 hx4 hj10=>.ix3 hx4 7 rfl fun b3 ob3 ex3=>?_;obtain ⟨⟨A85,c85⟩,_⟩:=ex3;refine .nm 13 rfl<|.n 1 rfl<|.gOn rfl rfl<|.ld ob3 1 0 rfl<|.n 1 rfl<|.gOn rfl rfl<|.lb 1 2 rfl ?_;cases hj10;exact .beq rfl<|.hU rfl (zl [] 2 rfl)
       cases hj10;exact .beq rfl<|.hU rfl zw
      cases hj10;exact .beq rfl<|.hU rfl zw
     cases hj10;exact .beq rfl<|.hU rfl zw
    refine .cb hj9 rfl (fun hj9=>?_) (fun hj9=>?_)
    ·refine .region<|.p rfl rfl<|.lb 0 6 rfl<|.p rfl rfl<|.bd hj9 fun x5 hx5 hj9=>.ix3 hx5 7 rfl fun b4 ob4 ex4=>?_;obtain ⟨⟨A86,c86⟩,_⟩:=ex4;refine .nm 13 rfl<|.ld ob4 0 0 rfl<|.sb 0 2 rfl<|.done ?_;cases hj9;exact .thenN<|.hE (A86,c86) rfl (zl [2,0] 2 rfl)
    cases hj9;exact .sk<|.hE (A82,c82) rfl (zl [1] 0 rfl)
   rintro ⟨A84,c84⟩;refine .seq<|.bd h3 fun o17 hj11 h3=>.cu 5 [6,16,17,19,158,159,160, .s 218 (.bool o17)] [] rfl rfl ?_ ?_
   ·refine .regionF mixed (by kernel_rfl)<|.lb 0 2 rfl<|.bd hj11 fun r22 hr22 hj11=>.cv [3,4] (qY hr22) zFp rfl<|.n 2 rfl<|.gs 208 hj11 rfl (fun hj11=>?_) (fun hj11=>?_)
    ·cases hj11;exact .beq rfl<|.hU rfl (zl [] 5 rfl)
    refine .n 1 rfl<|.gOn rfl rfl<|.lb 14 2 rfl<|.n 1 rfl<|.gOn rfl rfl<|.bd hj11 fun x6 hx6 hj11=>.ixP (sz:=6) hx6 rfl rfl rfl rfl rfl rfl rfl rfl<|.n 1 rfl<|.gOn rfl rfl<|.ldP (ls:=mA) 0 [.string x2.Name] [.int .i64 x2.Active, .int .i64 x2.Running, .bool x2.Trial] [(x2.Slots.e0,((A80,c80),())),(x2.Slots.e1,((A81,c81),()))] (fun ex=>.agg (yV x6.Image ex.1.1 ex.1.2).toArray) hx6 rfl rfl (zm 2 rfl) rfl rfl rfl ⟨(zm 3 rfl),(zm 4 rfl),trivial⟩ rfl (fun _=>rfl) fun ex5=>?_;obtain ⟨⟨A87,c87⟩,_⟩:=ex5;refine .nm 12 rfl<|.gOn rfl rfl<|.lb 0 2 rfl<|.gOn rfl rfl<|.bd hj11 fun r23 hr23 hj11=>.cv [0,1] (lI hr23) zQf rfl ?_;cases hj11;exact .beq rfl<|.hU rfl (zl [] 6 rfl)
   refine .cb h3 rfl (fun h3=>?_) (fun h3=>?_)
   ·refine .abf [4] [] 5 rfl rfl ?_;cases h3;cases hd3 _ rfl
    have h:some _=some _:=h;cases h;exact .rv rfl rfl ⟨rfl,rfl⟩ (zl [] 1 rfl)
   refine .skip<|.blkN<|.thenN<|.pr [6,16,17,19,158,159,160] rfl<|.region ?_;cases h3;exact .be rfl<|.ag () hm3 rfl zw
  refine .xq rfl ?_;cases h3;cases hd3 _ rfl
  exact .thenN<|.hereI () () rfl (zb rfl) (zl [] 5 rfl)
 rintro o14 e14 ho;subst ho;have h:=unR h;refine .ab [4] rfl ?_;cases h;exact .rv rfl rfl ⟨rfl,rfl⟩ (zl [] 1 rfl)
end Go.Proofs.YtplchdlgdjcojaaGreatDoor
end
section
namespace Go.Proofs.YtplchdlgdjcojaaGreatDoor
open Go
set_option linter.unusedSimpArgs false
set_option linter.unusedVariables false
def rng (l:List Int):Prop:=∀ x∈l,0≤x∧x≤255
theorem rng.nil:rng []:=fun x h=>by cases h
theorem rng.app {l m:List Int} (h:rng l) (k:rng m):rng (l++m):=fun x hx=>by
  rcases List.mem_append.1 hx with hx | hx
  · exact h x hx
  · exact k x hx
theorem rng.cons {x:Int} {l:List Int} (h:0≤x∧x≤255) (k:rng l):rng (x::l):=fun y hy=>by
  rcases List.mem_cons.1 hy with rfl | hy
  · exact h
  · exact k y hy
theorem rng.sub {l m:List Int} (h:rng l) (k:∀ x∈m,x∈l):rng m:=fun x hx=>h x (k x hx)
theorem rng.take {l:List Int} (h:rng l) (n:Nat):rng (l.take n):=h.sub fun _ hx=>List.mem_of_mem_take hx
theorem rng.drop {l:List Int} (h:rng l) (n:Nat):rng (l.drop n):=h.sub fun _ hx=>List.mem_of_mem_drop hx
theorem rng.set {l:List Int} (h:rng l) (n:Nat) {v:Int} (hv:0≤v∧v≤255):rng (l.set n v):=fun x hx=>by
  rcases List.mem_or_eq_of_mem_set hx with hx | hx
  · exact h x hx
  · subst hx; exact hv
theorem rng.get {l:List Int} (h:rng l) (i:Nat):0≤l.getD i 0∧l.getD i 0≤255:=by
  rw [List.getD_eq_getElem?_getD]
  cases hi:l[i]? with
  | none=>exact ⟨Int.le_refl 0,by decide⟩
  | some x=>exact h x (List.mem_of_getElem? hi)
theorem rng.rep {n:Nat} {v:Int} (hv:0≤v∧v≤255):rng (List.replicate n v):=fun x hx=>by
  obtain ⟨_,rfl⟩:=List.mem_replicate.1 hx
  exact hv
theorem sI {x:Int} (h:0≤x∧x≤255):∃ n:Nat,n<256∧x=(n:Int):=⟨x.toNat,by omega,by omega⟩
theorem zQY {x y:Int} (hx:0≤x∧x≤255) (hy:0≤y∧y≤255):0≤rP .u8 x y∧rP .u8 x y≤255:=by
  obtain ⟨a,ha,rfl⟩:=sI hx
  obtain ⟨b,hb,rfl⟩:=sI hy
  rw [zIt ha hb]
  have:=Nat.and_lt_two_pow (n:=8) a (y:=b) hb
  omega
theorem zQk {x y:Int} (hx:0≤x∧x≤255) (hy:0≤y∧y≤255):0≤iOr .u8 x y∧iOr .u8 x y≤255:=by
  obtain ⟨a,ha,rfl⟩:=sI hx
  obtain ⟨b,hb,rfl⟩:=sI hy
  rw [zDt ha hb]
  have:=Nat.or_lt_two_pow (n:=8) ha hb
  omega
theorem zRo {x:Int} (hx:0≤x∧x≤255):rP .u8 255 x=x:=by
  obtain ⟨a,ha,rfl⟩:=sI hx
  have:(255:Int)=((255:Nat):Int):=rfl
  rw [this,zIt (by decide) ha,Nat.and_comm]
  have e:a&&&255=a % 2 ^ 8:=Nat.and_two_pow_sub_one_eq_mod a 8
  rw [e]
  omega
theorem zWD {x:Int} (hx:0≤x∧x≤255):iOr .u8 x 255=255:=by
  obtain ⟨a,ha,rfl⟩:=sI hx
  have:(255:Int)=((255:Nat):Int):=rfl
  rw [this,zDt ha (by decide)]
  have h:∀ a:Fin 256,a.val|||255=255:=by decide+kernel
  rw [h ⟨a,ha⟩]
theorem or_zero {x y:Int} (hx:0≤x∧x≤255) (hy:0≤y∧y≤255):iOr .u8 x y=0↔x=0∧y=0:=by
  obtain ⟨a,ha,rfl⟩:=sI hx
  obtain ⟨b,hb,rfl⟩:=sI hy
  rw [zDt ha hb]
  have:=@Nat.or_eq_zero_iff a b
  omega
theorem zVQ {x:Int} (hx:0≤x∧x≤255):iOr .u8 x 0=x:=by
  obtain ⟨a,ha,rfl⟩:=sI hx
  have:(0:Int)=((0:Nat):Int):=rfl
  rw [this,zDt ha (by decide),Nat.or_zero]
structure OkD (d:zA):Prop where
  size:64≤d.size∧d.size≤1024
  wear:1≤d.wear.length∧d.wear.length≤16
  len:(d.bytes.length:Int)=d.wear.length*d.size
  rng:rng d.bytes
  torn:0≤d.torn∧d.torn≤255
  left:0≤d.left∧d.left≤9223372036854775807
theorem OkD.bound {d:zA} (h:OkD d):d.bytes.length≤16384:=by
  have h1:=h.len
  have h2:=h.size
  have h3:=h.wear
  have:(d.wear.length:Int)*d.size≤16*1024:=Int.mul_le_mul (by omega) (by omega) (by omega) (by omega)
  omega
def xI (d:zA):zA × Bool:=
  if 0<d.left then (⟨d.size,d.bytes,d.wear,IntKind.wrap .i64 (d.steps+1),d.left - 1,d.torn,d.left - 1==0⟩,d.left - 1==0)
  else (⟨d.size,d.bytes,d.wear,IntKind.wrap .i64 (d.steps+1),d.left,d.torn,d.down⟩,d.down)
theorem zNB {d:zA} (h:OkD d):vA d=some (xI d):=by
  unfold vA xI
  by_cases hl:0<d.left
  · rw [xF (by simpa using hl),if_pos hl,yO (x:=d.left - 1) (by have:=h.left; omega) (by have:=h.left; omega)]
  · rw [yR (by simpa using hl),if_neg hl]
theorem vB (d:zA):(xI d).1.bytes=d.bytes:=by unfold xI; split <;> rfl
theorem kV (d:zA):(xI d).1.size=d.size:=by unfold xI; split <;> rfl
theorem gH (d:zA):(xI d).1.wear=d.wear:=by unfold xI; split <;> rfl
theorem oG (d:zA):(xI d).1.torn=d.torn:=by unfold xI; split <;> rfl
theorem zBx {d:zA} (h:d.down=false):(xI d).1.down=(xI d).2:=by unfold xI; split <;> rfl
theorem dJ {d:zA} (h:OkD d):OkD (xI d).1:=by
  refine ⟨by rw [kV]; exact h.size,by rw [gH]; exact h.wear,by rw [vB,gH,kV]; exact h.len,by rw [vB]; exact h.rng,by rw [oG]; exact h.torn,?_⟩
  have:=h.left
  unfold xI
  split <;> simp only <;> omega
def wrB (d:zA) (i:Nat) (v:Int):zA:=⟨d.size,d.bytes.set i v,d.wear,d.steps,d.left,d.torn,d.down⟩
theorem zIO {d:zA} (h:OkD d) (i:Nat) {v:Int} (hv:0≤v∧v≤255):OkD (wrB d i v):=
  ⟨h.size,h.wear,by show ((d.bytes.set i v).length:Int)=_; rw [List.length_set]; exact h.len,h.rng.set i hv,h.torn,h.left⟩
def pJ:zA→Nat→List Int→zA × Int
  | d,_, []=>(d,0)
  | d,i,x::b=>
    if (xI d).2 then (wrB (xI d).1 i (rP .u8 (d.bytes.getD i 0) (iOr .u8 x d.torn)),10)
    else pJ (wrB (xI d).1 i (rP .u8 (d.bytes.getD i 0) x)) (i+1) b
theorem zJS:∀ (b:List Int) (d:zA) (i:Nat),OkD d→rng b→OkD (pJ d i b).1∧(pJ d i b).1.size=d.size∧(pJ d i b).1.wear=d.wear∧(pJ d i b).1.bytes.length=d.bytes.length∧(pJ d i b).1.torn=d.torn
  | [],d,i,h,_=>⟨h,rfl,rfl,rfl,rfl⟩
  | x::b,d,i,h,hb=>by
    have hx:=hb x (by simp)
    unfold pJ
    split
    · exact ⟨zIO (dJ h) i (zQY (h.rng.get i) (zQk hx h.torn)),kV d,gH d,by simp [wrB,vB],oG d⟩
    · obtain ⟨h1, h2, h3, h4, h5⟩ := zJS b (wrB (xI d).1 i (rP .u8 (d.bytes.getD i 0) x)) (i + 1) (zIO (dJ h) i (zQY (h.rng.get i) hx)) (fun y hy => hb y (by simp [hy]))
      exact ⟨h1,h2.trans (kV d),h3.trans (gH d),by rw [h4]; simp [wrB,vB],h5.trans (oG d)⟩
theorem aZ {l:List Int} {i:Nat} (h:i<l.length):elt l (i:Int)=some (l.getD i 0):=by
  rw [elt_nat,List.getD_eq_getElem?_getD,List.getElem?_eq_getElem h]
  rfl
theorem oL {α:Type} {l:List α} {i:Nat} (h:i<l.length) (v:α):sV l (i:Int) v=some (l.set i v):=by
  unfold sV
  rw [if_pos ⟨by omega,by omega⟩]
  simp
theorem zHE {d:zA} (h:OkD d) (at_ n:Int) (ha1: -4611686018427387904≤at_):uO d at_ n=some (decide (0≤at_∧at_≤d.bytes.length∧0≤n∧n≤d.bytes.length - at_)):=by
  have hb:=h.bound
  unfold uO
  by_cases h1:at_≥0
  · rw [xF (by simpa using h1)]
    by_cases h2:at_≤(d.bytes.length:Int)
    · rw [xF (by simpa using h2)]
      by_cases h3:n≥0
      · rw [xF (by simpa using h3), bnd_some, yO (by omega) (by omega)]
        congr 1
        rw [decide_eq_decide]
        omega
      · rw [yR (by simpa using h3), bnd_some]
        congr 1
        symm
        rw [decide_eq_false_iff_not]
        omega
    · rw [yR (by simpa using h2), bnd_some]
      congr 1
      symm
      rw [decide_eq_false_iff_not]
      omega
  · rw [yR (by simpa using h1), bnd_some]
    congr 1
    symm
    rw [decide_eq_false_iff_not]
    omega
noncomputable def aD (at_p1:Int) (b_p2:List Int):zA × Int→Option (sQ (zA × Int) ((zA × Int) ⊕ zA)):=
  (fun (s1:zA × Int)=>bif decide (s1.2<(b_p2.length:Int)) then (bnd (elt b_p2 s1.2) fun x1=>bnd (vA s1.1) fun r2=>bif r2.2 then (bnd (elt r2.1.bytes (IntKind.wrap .i64 (at_p1+s1.2))) fun x2=>bnd (elt r2.1.bytes (IntKind.wrap .i64 (at_p1+s1.2))) fun x3=>bnd (elt r2.1.bytes (IntKind.wrap .i64 (at_p1+s1.2))) fun x4=>bnd (sV r2.1.bytes (IntKind.wrap .i64 (at_p1+s1.2)) (rP .u8 x3 (iOr .u8 x1 r2.1.torn))) fun l1=>some (.done (.inl ((⟨r2.1.size,l1,r2.1.wear,r2.1.steps,r2.1.left,r2.1.torn,r2.1.down⟩:zA),10)))) else (bnd (elt r2.1.bytes (IntKind.wrap .i64 (at_p1+s1.2))) fun x5=>bnd (sV r2.1.bytes (IntKind.wrap .i64 (at_p1+s1.2)) (rP .u8 x5 x1)) fun l2=>some (.next ((⟨r2.1.size,l2,r2.1.wear,r2.1.steps,r2.1.left,r2.1.torn,r2.1.down⟩:zA),IntKind.wrap .i64 (s1.2+1))))) else (some (.done (.inr s1.1))))
def zEq (r:zA × Int):(zA × Int) ⊕ zA:=if r.2=0 then .inr r.1 else .inl r
theorem zHK (at_:Nat) (b:List Int) (hr:rng b):∀ (rest:List Int) (j:Nat) (d:zA),OkD d→b.drop j=rest→j+rest.length=b.length→at_+b.length≤d.bytes.length→
    yD (aD (at_:Int) b) (d,(j:Int))=some (zEq (pJ d (at_+j) rest))
  | [],j,d,hd,h1,h2,h3=>by
    refine xM ?_
    unfold aD
    simp only [List.length_nil] at h2
    rw [yR (by simp; omega)]
    rfl
  | x::rest,j,d,hd,h1,h2,h3=>by
    have hb:=hd.bound
    simp only [List.length_cons] at h2
    have hj:j<b.length:=by omega
    have hx:b[j]=x:=by
      have:=List.getElem_cons_drop (h:=hj)
      rw [h1] at this
      exact (List.cons.inj this).1
    have hrest:b.drop (j+1)=rest:=by
      have:=List.getElem_cons_drop (h:=hj)
      rw [h1] at this
      exact (List.cons.inj this).2
    have hxr:=hr x (by rw [←hx]; exact List.getElem_mem hj)
    have hi:at_+j<(xI d).1.bytes.length:=by rw [vB]; omega
    have hw:IntKind.wrap .i64 ((at_:Int)+(j:Int))=((at_+j:Nat):Int):=by rw [yO (by omega) (by omega)]; omega
    have hstep:aD (at_:Int) b (d,(j:Int))=some (if (xI d).2 then .done (.inl (wrB (xI d).1 (at_+j) (rP .u8 (d.bytes.getD (at_+j) 0) (iOr .u8 x d.torn)),10)) else .next (wrB (xI d).1 (at_+j) (rP .u8 (d.bytes.getD (at_+j) 0) x),((j+1:Nat):Int))):=by
      unfold aD
      simp only
      rw [xF (by simp; omega),yS hj,bnd_some,hx,zNB hd,bnd_some]
      cases hf:(xI d).2
      · rw [cond_false, hw, aZ hi, bnd_some, oL hi, bnd_some, zR hj (by omega), vB, if_neg (by decide)]
        simp only [wrB,vB]
      · rw [cond_true, hw, aZ hi, bnd_some, bnd_some, bnd_some, oL hi, bnd_some, vB, oG, if_pos rfl]
        simp only [wrB,vB,oG]
    cases hf:(xI d).2
    · rw [hf] at hstep
      refine tJ hstep ?_
      have:=zHK at_ b hr rest (j+1) (wrB (xI d).1 (at_+j) (rP .u8 (d.bytes.getD (at_+j) 0) x)) (zIO (dJ hd) _ (zQY (hd.rng.get _) hxr)) hrest (by omega) (by simp [wrB,vB]; omega)
      rw [this]
      conv=>rhs; unfold pJ
      rw [if_neg (by rw [hf]; decide)]
      rfl
    · rw [hf] at hstep
      rw [xM hstep]
      conv=>rhs; unfold pJ
      rw [if_pos hf]
      simp only [zEq]
      rw [if_neg (by decide)]
theorem zDo:∀ (b:List Int) (d:zA) (i:Nat),(pJ d i b).2=0∨(pJ d i b).2=10
  | [],d,i=>.inl rfl
  | x::b,d,i=>by
    unfold pJ
    split
    · exact .inr rfl
    · exact zDo b _ _
theorem zJE (r:zA × Int) (h:r.2=0∨r.2=10):(wP (zEq r) fun o2=>some (o2,0))=some r:=by
  unfold zEq
  rcases h with h | h
  · rw [if_pos h,retOr_inr,←h]
  · rw [if_neg (by rw [h]; decide),retOr_inl]
def zZ (d:zA) (at_:Int) (b:List Int):zA × Int:=
  if d.down then (d,10) else if 0≤at_∧at_≤d.bytes.length∧0≤(b.length:Int)∧(b.length:Int)≤d.bytes.length - at_ then pJ d at_.toNat b else (d,2)
theorem dY {d:zA} (h:OkD d) {b:List Int} (hb:rng b) (at_:Int) (ha1: -4611686018427387904≤at_):wI d at_ b=some (zZ d at_ b):=by
  unfold wI zZ
  cases hd:d.down
  · rw [cond_false, zHE h at_ _ ha1, bnd_some]
    by_cases hw:0≤at_∧at_≤d.bytes.length∧0≤(b.length:Int)∧(b.length:Int)≤d.bytes.length - at_
    · rw [if_neg (by simp), if_pos hw, yR (by simp only [hw, decide_true]; rfl)]
      have:=zHK at_.toNat b hb b 0 d h rfl (by omega) (by omega)
      have e:((at_.toNat:Nat):Int)=at_:=by omega
      rw [e] at this
      unfold aD at this
      exact yA this (zJE _ (zDo b d _))
    · rw [if_neg (by simp),if_neg hw,xF (by rw [decide_eq_false hw]; rfl)]
  · rw [cond_true,if_pos rfl]
theorem zJM {d:zA} (h:OkD d) {b:List Int} (hb:rng b) (at_:Int):OkD (zZ d at_ b).1∧(zZ d at_ b).1.size=d.size∧(zZ d at_ b).1.wear=d.wear∧(zZ d at_ b).1.bytes.length=d.bytes.length∧(zZ d at_ b).1.torn=d.torn:=by
  unfold zZ
  split
  · exact ⟨h,rfl,rfl,rfl,rfl⟩
  · split
    · exact zJS b d _ h hb
    · exact ⟨h,rfl,rfl,rfl,rfl⟩
theorem lV {b:List Int} (h:b.length≤1000000):zP b=some b:=by
  unfold zP
  rw [uW (by simp; omega) (by simp; omega),bnd_some]
  rfl
def zNo (d:zA) (at_ n:Int):List Int × Int:=
  if d.down then ([],10) else if 0≤at_∧at_≤d.bytes.length∧0≤n∧n≤d.bytes.length - at_ then ((d.bytes.drop at_.toNat).take n.toNat,0) else ([],2)
theorem zNt {d:zA} (h:OkD d) (at_ n:Int) (ha1: -4611686018427387904≤at_):uG d at_ n=some (d,zNo d at_ n):=by
  have hb:=h.bound
  unfold uG zNo
  cases hd:d.down
  · rw [cond_false, zHE h at_ _ ha1, bnd_some]
    by_cases hw:0≤at_∧at_≤d.bytes.length∧0≤n∧n≤d.bytes.length - at_
    · rw [if_neg (by simp), if_pos hw, yR (by simp only [hw, decide_true]; rfl), yO (by omega) (by omega)]
      obtain ⟨a,rfl⟩:∃ a:Nat,at_=(a:Int):=⟨at_.toNat,by omega⟩
      obtain ⟨k,rfl⟩:∃ k:Nat,n=(k:Int):=⟨n.toNat,by omega⟩
      have h1:mO d.bytes.length (a:Int) ((a:Int)+(k:Int))=some k:=by
        unfold mO
        rw [if_pos ⟨by omega,by omega,by omega⟩]
        congr 1
        omega
      have h2:Go.Proofs.YtplchdlgdjcojaaGreatDoor.sub d.bytes (((a:Int).toNat:Nat):Int) (((a:Int).toNat+k:Nat):Int)=some ((d.bytes.take (a+k)).drop a):=by
        unfold Go.Proofs.YtplchdlgdjcojaaGreatDoor.sub
        rw [if_pos ⟨by omega,by omega,by omega⟩]
        congr 2
      rw [h1,bnd_some,h2,bnd_some,lV (by simp; omega),bnd_some]
      congr 3
      rw [List.take_drop,show (a:Int).toNat+(k:Int).toNat=a+k by omega]
      rfl
    · rw [if_neg (by simp),if_neg hw,xF (by rw [decide_eq_false hw]; rfl)]
  · rw [cond_true,if_pos rfl]
def orP (l:List Int) (lo n:Nat) (v:Int):List Int:=l.take lo++((l.drop lo).take n).map (fun x=>iOr .u8 x v)++l.drop (lo+n)
theorem zNK (l:List Int) (lo n:Nat) (v:Int) (h:lo+n≤l.length):(orP l lo n v).length=l.length:=by
  simp only [orP,List.length_append,List.length_take,List.length_map,List.length_drop]
  omega
theorem zUb {l:List Int} (h:rng l) (lo n:Nat) {v:Int} (hv:0≤v∧v≤255):rng (orP l lo n v):=by
  refine ((h.take lo).app fun x hx=>?_).app (h.drop _)
  obtain ⟨y,hy,rfl⟩:=List.mem_map.1 hx
  exact zQk (((h.drop lo).take n) y hy) hv
theorem zRK (l:List Int) (lo:Nat) (v:Int):orP l lo 0 v=l:=by simp [orP]
theorem zQs {l:List Int} {lo n:Nat} (v:Int) (h:lo+n<l.length):(orP l lo n v).set (lo+n) (iOr .u8 (l.getD (lo+n) 0) v)=orP l lo (n+1) v:=by
  unfold orP
  have h1:(l.take lo++((l.drop lo).take n).map (fun x=>iOr .u8 x v)).length=lo+n:=by
    simp only [List.length_append,List.length_take,List.length_map,List.length_drop]; omega
  have h2:l.drop (lo+n)=l[lo+n]::l.drop (lo+(n+1)):=(List.getElem_cons_drop (h:=h)).symm
  have h3:(l.drop lo).take (n+1)=(l.drop lo).take n++ [l[lo+n]]:=by
    rw [xE (by simp; omega)]
    simp
  rw [List.set_append_right _ _ (by omega),h1,Nat.sub_self,h2,List.set_cons_zero,h3,List.map_append,List.getD_eq_getElem?_getD,List.getElem?_eq_getElem h]
  simp
theorem zTW {l:List Int} {lo n:Nat} (v:Int) (h:lo+n<l.length):(orP l lo n v).getD (lo+n) 0=l.getD (lo+n) 0:=by
  unfold orP
  have h1:(l.take lo++((l.drop lo).take n).map (fun x=>iOr .u8 x v)).length=lo+n:=by
    simp only [List.length_append,List.length_take,List.length_map,List.length_drop]; omega
  rw [List.getD_eq_getElem?_getD,List.getD_eq_getElem?_getD,List.getElem?_append_right (by omega),h1,Nat.sub_self,List.getElem?_drop]
  simp
def wrW (d:zA) (i:Nat):zA:=⟨d.size,d.bytes,d.wear.set i (IntKind.wrap .i64 (d.wear.getD i 0+1)),d.steps,d.left,d.torn,d.down⟩
def wrA (d:zA) (b:List Int):zA:=⟨d.size,b,d.wear,d.steps,d.left,d.torn,d.down⟩
def tM (d:zA) (s:Int):zA × Int:=
  if d.down then (d,10) else if s<0∨s≥d.wear.length then (d,2) else
    (wrA (xI (wrW d s.toNat)).1 (orP d.bytes (s.toNat*d.size.toNat) d.size.toNat (if (xI (wrW d s.toNat)).2 then d.torn else 255)),if (xI (wrW d s.toNat)).2 then 10 else 0)
theorem zMS {d:zA} (h:OkD d) (i:Nat):OkD (wrW d i):=
  ⟨h.size,by show 1≤(d.wear.set _ _).length∧(d.wear.set _ _).length≤16; rw [List.length_set]; exact h.wear,by show (d.bytes.length:Int)=((d.wear.set _ _).length:Int)*_; rw [List.length_set]; exact h.len,h.rng,h.torn,h.left⟩
theorem zVF {d:zA} (h:OkD d) {b:List Int} (hl:b.length=d.bytes.length) (hr:rng b):OkD (wrA d b):=
  ⟨h.size,h.wear,by show (b.length:Int)=_; rw [hl]; exact h.len,hr,h.torn,h.left⟩
theorem tC {d:zA} (h:OkD d) {k:Nat} (hk:k<d.wear.length):k*d.size.toNat+d.size.toNat≤d.bytes.length:=by
  have h1:=h.len
  have h2:=h.size
  obtain ⟨z,hz⟩:∃ z:Nat,d.size=(z:Int):=⟨d.size.toNat,by omega⟩
  rw [hz] at h1 ⊢
  have h3:d.bytes.length=d.wear.length*z:=by exact_mod_cast h1
  have h4:(k+1)*z≤d.wear.length*z:=Nat.mul_le_mul_right _ (by omega)
  rw [Nat.add_mul,Nat.one_mul] at h4
  show k*z+z≤_
  omega
theorem zRA {d:zA} (h:OkD d) (s:Int) (hs:s≤4611686018427387904):rF d s=some (tM d s):=by
  have hb:=h.bound
  unfold rF tM
  cases hd:d.down
  · rw [cond_false, if_neg (by simp)]
    by_cases hs0:s<0
    · rw [xF (by simpa using hs0),bnd_some,cond_true,if_pos (.inl hs0)]
    · rw [yR (by simpa using hs0), bnd_some]
      by_cases hs1:s≥d.wear.length
      · rw [xF (by simpa using hs1),if_pos (.inr hs1)]
      · rw [yR (by simpa using hs1), if_neg (by omega)]
        obtain ⟨k,rfl⟩:∃ k:Nat,s=(k:Int):=⟨s.toNat,by omega⟩
        have hk:k<d.wear.length:=by omega
        have hk16:=h.wear
        have hok:=dJ (zMS h k)
        have hst:vA (⟨d.size,d.bytes,d.wear.set k (IntKind.wrap .i64 (d.wear.getD k 0+1)),d.steps,d.left,d.torn,false⟩:zA)=some (xI (wrW d k)):=by rw [←zNB (zMS h k)]; simp only [wrW,hd]
        rw [aZ hk,bnd_some,oL hk,bnd_some,hst,bnd_some]
        have hz:=h.size
        obtain ⟨z,hzz⟩:∃ z:Nat,d.size=(z:Int):=⟨d.size.toNat,by omega⟩
        have hsz:(xI (wrW d k)).1.size=(z:Int):=(kV _).trans hzz
        have hby:(xI (wrW d k)).1.bytes=d.bytes:=vB _
        have hse:=tC h hk
        rw [hzz] at hse
        have hkz:k*z≤16384:=by
          have:((z:Int)).toNat=z:=rfl
          rw [this] at hse
          omega
        have hse':k*z+z≤d.bytes.length:=hse
        have e1:IntKind.wrap .i64 ((k:Int)*(z:Int))=((k*z:Nat):Int):=by
          have:(k:Int)*(z:Int)=((k*z:Nat):Int):=by simp
          rw [this,yW (by omega)]
        have e2:IntKind.wrap .i64 (IntKind.wrap .i64 ((k:Int)+1)*(z:Int))=((k*z+z:Nat):Int):=by
          rw [yO (x:=(k:Int)+1) (by omega) (by omega)]
          have:((k:Int)+1)*(z:Int)=((k*z+z:Nat):Int):=by simp [Int.add_mul]
          rw [this,yW (by omega)]
        simp only [hsz,hby,e1,e2]
        have hpm:mO d.bytes.length ((k*z:Nat):Int) ((k*z+z:Nat):Int)=some z:=by
          unfold mO
          rw [if_pos ⟨by omega,by omega,by omega⟩]
          congr 1
          omega
        have ho:(bif (xI (wrW d k)).2 then some (xI (wrW d k)).1.torn else some 255)=some (if (xI (wrW d k)).2 then d.torn else 255):=by
          rw [oG]
          cases (xI (wrW d k)).2 <;> rfl
        rw [ho,bnd_some,hpm,bnd_some]
        generalize hv:(if (xI (wrW d k)).2=true then d.torn else 255)=v
        have hvr:0≤v∧v≤255:=by rw [←hv]; split; exact h.torn; decide
        have e3:(((k*z:Nat):Int)).toNat=k*z:=rfl
        rw [e3]
        refine xW (fun j=>(wrA (xI (wrW d k)).1 (orP d.bytes (k*z) j v),(j:Int))) z (wrA (xI (wrW d k)).1 (orP d.bytes (k*z) z v)) ?_ (fun j hj=>?_) ?_ ?_
        · rw [zRK,←hby]; rfl
        · have hlt : k * z + j < d.bytes.length := by omega
          have hlt2:k*z+j<(orP d.bytes (k*z) j v).length:=by rw [zNK _ _ _ _ (by omega)]; exact hlt
          have hel:zIL (orP d.bytes (k*z) j v) (k*z) z (j:Int)=some (d.bytes.getD (k*z+j) 0):=by
            unfold zIL
            rw [if_pos ⟨by omega,by omega⟩]
            have:((k*z:Nat):Int)+(j:Int)=((k*z+j:Nat):Int):=by omega
            rw [this,aZ hlt2,zTW v hlt]
          have hse2:sV (orP d.bytes (k*z) j v) (((k*z:Nat):Int)+(j:Int)) (iOr .u8 (d.bytes.getD (k*z+j) 0) v)=some (orP d.bytes (k*z) (j+1) v):=by
            have:((k*z:Nat):Int)+(j:Int)=((k*z+j:Nat):Int):=by omega
            rw [this,oL hlt2,zQs v hlt]
          simp only [wrA]
          rw [xF (by simp; omega),hel,bnd_some,bnd_some,hse2,bnd_some,zR hj (by omega)]
        · simp only
          rw [yR (by simp)]
        · have e4 : ((z : Int)).toNat = z := rfl
          have e5:((k:Int)).toNat=k:=rfl
          rw [hzz]
          simp only [e4,e5]
          cases hf:(xI (wrW d k)).2
          · rw [hf] at hv
            rw [cond_false,←hv]
            rfl
          · rw [hf] at hv
            rw [cond_true,←hv]
            rfl
  · rw [cond_true,if_pos rfl]
theorem zGX {d:zA} (h:OkD d) (s:Int):OkD (tM d s).1∧(tM d s).1.size=d.size∧(tM d s).1.wear.length=d.wear.length∧(tM d s).1.bytes.length=d.bytes.length∧(tM d s).1.torn=d.torn:=by
  unfold tM
  split
  · exact ⟨h,rfl,rfl,rfl,rfl⟩
  · split
    · exact ⟨h,rfl,rfl,rfl,rfl⟩
    · rename_i hs
      have hk:s.toNat<d.wear.length:=by omega
      have hse:=tC h hk
      have hl:=zNK d.bytes (s.toNat*d.size.toNat) d.size.toNat (if (xI (wrW d s.toNat)).2 then d.torn else 255) hse
      have hvr:0≤(if (xI (wrW d s.toNat)).2 then d.torn else 255)∧(if (xI (wrW d s.toNat)).2 then d.torn else 255)≤255:=by split; exact h.torn; decide
      refine ⟨zVF (dJ (zMS h _)) ?_ (zUb h.rng _ _ hvr),kV _,?_,hl,oG _⟩
      · rw [vB]; exact hl
      · show (xI (wrW d s.toNat)).1.wear.length = _
        rw [gH]
        simp [wrW]
def zGv (d:zA):zA:=⟨d.size,d.bytes,d.wear,d.steps,0,d.torn,false⟩
end Go.Proofs.YtplchdlgdjcojaaGreatDoor
end
section
namespace Go.Proofs.YtplchdlgdjcojaaGreatDoor
open Go
set_option linter.unusedVariables false
set_option linter.unusedSimpArgs false
def wK (n:Nat):Nat:=(n+63) / 64
def dl (b:List Int) (k:Nat):xC:=⟨(b.length:Int),64,List.replicate k true++List.replicate (wK b.length - k) false,b.take (64*k)++List.replicate (b.length - 64*k) 0⟩
def zAE (b:List Int) (k:Nat):List Int:=(b.take (min (64*k+64) b.length)).drop (64*k)
theorem cV (b:List Int) (k:Nat):(dl b k).Data.length=b.length:=by
  simp only [dl,List.length_append,List.length_take,List.length_replicate]; omega
theorem zNe (b:List Int) {k:Nat} (h:k≤wK b.length):(dl b k).Have.length=wK b.length:=by
  simp only [dl,List.length_append,List.length_replicate]; omega
theorem zJC {n:Nat} (h1:1≤n) (h2:n≤8192):vQ (n:Int) 64=some true:=by
  unfold vQ
  rw [decide_eq_true (by omega:(n:Int)≥1),cond_true,decide_eq_true (by omega:(n:Int)≤8192)]
  rfl
theorem zOt {n:Nat} (h:n=0∨8192<n):vQ (n:Int) 64=some false:=by
  unfold vQ
  rcases h with rfl | h
  · rfl
  · rw [decide_eq_true (by omega : (n : Int) ≥ 1), cond_true, decide_eq_false (by omega : ¬ (n : Int) ≤ 8192)]
    rfl
theorem zLf {n:Nat} (h2:n≤8192):sG (n:Int) 64=some (wK n:Int):=by
  unfold sG
  rw [show ((n:Int)+64)=((n+64:Nat):Int) by omega,yW (by omega),show (((n+64:Nat):Int) - 1)=((n+63:Nat):Int) by omega,yW (by omega)]
  unfold zPB
  rw [if_neg (by omega),bnd_some,show (64:Int)=((64:Nat):Int) from rfl,zQU,yW (by omega)]
  rfl
theorem zQQ {b:List Int} (h1:1≤b.length) (h2:b.length≤8192):sO (b.length:Int) 64=some (dl b 0,0):=by
  unfold sO
  have hc:wK b.length≤200:=by unfold wK; omega
  rw [zJC h1 h2,bnd_some,Bool.not_true,cond_false,zLf h2,bnd_some]
  have e1:mkS 1 false (wK b.length:Int) (wK b.length:Int)=some (List.replicate (wK b.length) false):=by
    unfold mkS
    rw [if_pos ⟨by omega,by omega,by omega,by omega⟩]
    simp
  have e2:mkS 1 (0:Int) (b.length:Int) (b.length:Int)=some (List.replicate b.length 0):=by
    unfold mkS
    rw [if_pos ⟨by omega,by omega,by omega,by omega⟩]
    simp
  rw [e1,bnd_some,e2,bnd_some]
  simp [dl]
theorem zPS {n:Nat} (h:n=0∨8192<n):sO (n:Int) 64=some (⟨0,0, [], []⟩,2):=by
  unfold sO
  rw [zOt h,bnd_some]
  rfl
theorem zLw (D:xC) {n i:Nat} (hz:D.Size=(n:Int)) (hp:D.Part=64) (hl:D.Data.length=n) (h2:n≤8192) (hi:i<wK n):
    sD D (i:Int)=some ((D.Data.take (min (64*i+64) n)).drop (64*i)):=by
  unfold sD
  have hc:64*i<n:=by unfold wK at hi; omega
  rw [hp,hz,show ((i:Int)*64)=((64*i:Nat):Int) by omega,yW (by omega),show (((64*i:Nat):Int)+64)=((64*i+64:Nat):Int) by omega,yW (by omega)]
  have hm:min ((64*i+64:Nat):Int) (n:Int)=((min (64*i+64) n:Nat):Int):=by omega
  rw [hm]
  unfold sub
  rw [if_pos ⟨by omega,by omega,by omega⟩,bnd_some,Int.toNat_natCast,Int.toNat_natCast]
theorem zTY {l:List Int} (h:∀ x∈l,x=0) (hl:l.length≤1000000):xV l=some false:=by
  unfold xV vN
  refine yA (a:= -1) ?_ rfl
  refine xW (fun i=>(i:Int)) l.length (.inr ()) rfl (fun i hi=>?_) ?_ rfl
  · have hx := h _ (List.getElem_mem hi)
    rw [decide_eq_true (by omega:(i:Int)<(l.length:Int)),cond_true,yS hi,bnd_some,hx]
    unfold qW
    rw [bnd_some,zR hi (by omega)]
    rfl
  · rw [decide_eq_false (by omega : ¬ (l.length : Int) < (l.length : Int))]
    rfl
theorem zRH {b:List Int} {k i:Nat} (hk:k≤i):∀ x∈((dl b k).Data.take (min (64*i+64) b.length)).drop (64*i),x=0:=by
  intro x hx
  have hd:((dl b k).Data.take (min (64*i+64) b.length)).drop (64*i)=((List.replicate (b.length - 64*k) (0:Int)).take (min (64*i+64) b.length - (b.take (64*k)).length)).drop (64*i - ((b.take (64*k)).take (min (64*i+64) b.length)).length):=by
    simp only [dl]
    rw [List.take_append,List.drop_append,List.drop_eq_nil_of_le,List.nil_append]
    simp only [List.length_take]; omega
  rw [hd] at hx
  exact List.eq_of_mem_replicate (List.mem_of_mem_take (List.mem_of_mem_drop hx))
theorem zES {b:List Int} {k i:Nat} (hk:k≤wK b.length) (hi:i<wK b.length):elt (dl b k).Have (i:Int)=some (decide (i<k)):=by
  rw [elt_nat]
  simp only [dl]
  by_cases h:i<k
  · rw [List.getElem?_append_left (by simpa using h),List.getElem?_replicate_of_lt h,decide_eq_true h]
  · rw [List.getElem?_append_right (by simpa using h),List.length_replicate,List.getElem?_replicate_of_lt (by omega),decide_eq_false h]
theorem zMg {b:List Int} {k:Nat} (h1:1≤b.length) (h2:b.length≤8192) (hk:k≤wK b.length):sF (dl b k)=some true:=by
  unfold sF
  have hc:wK b.length≤200:=by unfold wK; omega
  have hh:=zNe b hk
  refine yA (a:=false) ?_ ?_
  · show bnd (vQ (b.length : Int) 64) _ = _
    rw [zJC h1 h2,bnd_some,Bool.not_true,cond_false]
    show bnd (sG (b.length:Int) 64) _=_
    rw [zLf h2,bnd_some,hh,cV]
    simp only [bne_self_eq_false,cond_false]
    show some ((b.length:Int) != (b.length:Int))=_
    simp
  rw [cond_false,hh]
  refine xW (fun i=>(i:Int)) (wK b.length) (.inr ()) rfl (fun i hi=>?_) ?_ rfl
  · rw [decide_eq_true (by omega : (i : Int) < (wK b.length : Int)), cond_true, zES hk hi, bnd_some]
    refine yA (a:=false) ?_ ?_
    · by_cases h : i < k
      · rw [decide_eq_true h]; rfl
      · rw [decide_eq_false h,Bool.not_false,cond_true,zLw (dl b k) rfl rfl (cV b k) h2 hi,bnd_some,zTY (zRH (by omega)) (by rw [List.length_drop,List.length_take,cV]; omega),bnd_some]
    · rw [cond_false,zR hi (by omega)]
  · rw [decide_eq_false (by omega : ¬ (wK b.length : Int) < (wK b.length : Int))]
    rfl
theorem zMs {l:List Bool} (h:l.length≤1000000):wW l=some l:=by
  unfold wW
  rw [uW (by simp; omega) (by simp; omega),bnd_some]
  simp
theorem zNR {b:List Int} {k:Nat} (h:k<wK b.length):(zAE b k).length=min 64 (b.length - 64*k):=by
  unfold zAE wK at*
  simp only [List.length_drop,List.length_take]; omega
theorem zQV {b:List Int} {k:Nat} (hk:k<wK b.length):((dl b k).Have).set k true=(dl b (k+1)).Have:=by
  apply List.ext_getElem?
  intro j
  simp only [dl,List.getElem?_set,List.getElem?_append,List.getElem?_replicate,List.length_append,List.length_replicate]
  by_cases h1:k=j
  · subst h1
    simp; omega
  · by_cases h2 : j < k
    · simp [h1,h2,show j<k+1 by omega]
    · simp only [h1, h2, show ¬ j < k + 1 by omega, if_false]
      by_cases h3:j<wK b.length
      · rw [if_pos (by omega),if_pos (by omega)]
      · rw [if_neg (by omega),if_neg (by omega)]
theorem zSy {b:List Int} {k:Nat} (hk:k<wK b.length):(dl b k).Data.take (64*k)++(zAE b k).take (min (zAE b k).length (min 64 (b.length - 64*k)))++(dl b k).Data.drop (64*k+min (zAE b k).length (min 64 (b.length - 64*k)))=(dl b (k+1)).Data:=by
  have hl:=zNR hk
  have hc:64*k<b.length:=by unfold wK at hk; omega
  have hA:(b.take (64*k)).length=64*k:=by rw [List.length_take]; omega
  have e1:(dl b k).Data.take (64*k)=b.take (64*k):=by
    simp only [dl]
    rw [List.take_append_of_le_length (by omega),List.take_take,Nat.min_self]
  have e2:(dl b k).Data.drop (64*k+min 64 (b.length - 64*k))=List.replicate (b.length - 64*(k+1)) 0:=by
    simp only [dl]
    rw [List.drop_append,List.drop_eq_nil_of_le (by omega),List.nil_append,hA,List.drop_replicate]
    congr 1
    omega
  have e3:(zAE b k).take (min 64 (b.length - 64*k))=zAE b k:=List.take_of_length_le (by omega)
  rw [hl,Nat.min_self,e1,e2,e3]
  have e4:b.take (64*k)++zAE b k=b.take (64*(k+1)):=by
    unfold zAE
    have h5:=List.take_append_drop (64*k) (b.take (min (64*k+64) b.length))
    rw [List.take_take,show min (64*k) (min (64*k+64) b.length)=64*k by omega] at h5
    rw [h5]
    by_cases h6:64*k+64≤b.length
    · rw [show min (64*k+64) b.length=64*(k+1) by omega]
    · rw [show min (64*k+64) b.length=b.length by omega,List.take_length,List.take_of_length_le (by omega)]
  rw [e4]
  rfl
theorem zTi {b:List Int} {k:Nat} (h1:1≤b.length) (h2:b.length≤8192) (hk:k<wK b.length):rO (dl b k) (k:Int) (zAE b k)=some (dl b (k+1),0):=by
  unfold rO
  have hc:wK b.length≤200:=by unfold wK; omega
  have h64:64*k<b.length:=by unfold wK at hk; omega
  have hh:=zNe b (Nat.le_of_lt hk)
  have hsl:=zNR hk
  rw [zMg h1 h2 (by omega),bnd_some,Bool.not_true,cond_false,decide_eq_false (by omega:¬ (k:Int)<0),cond_false,bnd_some,hh,decide_eq_false (by omega:¬ (k:Int)≥(wK b.length:Int)),cond_false]
  rw [zLw (dl b k) rfl rfl (cV b k) h2 hk,bnd_some]
  have hpl:(((dl b k).Data.take (min (64*k+64) b.length)).drop (64*k)).length=(zAE b k).length:=by
    rw [hsl,List.length_drop,List.length_take,cV]; omega
  rw [hpl,show (((zAE b k).length:Int) != ((zAE b k).length:Int))=false by simp,cond_false]
  refine yA (a:=false) ?_ ?_
  · rw [zES (by omega) hk, bnd_some, decide_eq_false (by omega)]
    rfl
  rw [cond_false,zMs (by omega),bnd_some,lV (by rw [cV]; omega),bnd_some,zES (by omega) hk,bnd_some]
  have hs:sV (dl b k).Have (k:Int) true=some ((dl b (k+1)).Have):=by
    rw [oL (by omega),zQV hk]
  rw [hs,bnd_some]
  have hp0:qA (⟨(dl b k).Size,(dl b k).Part,(dl b (k+1)).Have,(dl b k).Data⟩:xC) (k:Int)=some (64*k,min 64 (b.length - 64*k)):=by
    unfold qA
    simp only
    have e1:(dl b k).Part=64:=rfl
    have e2:(dl b k).Size=(b.length:Int):=rfl
    rw [e1,e2,cV,show ((k:Int)*64)=((64*k:Nat):Int) by omega,yW (by omega),show (((64*k:Nat):Int)+64)=((64*k+64:Nat):Int) by omega,yW (by omega)]
    unfold mO
    rw [if_pos ⟨by omega,by omega,by omega⟩,bnd_some]
    congr 2
    omega
  rw [hp0,bnd_some]
  have hcp:jQ (dl b k).Data (64*k) (min 64 (b.length - 64*k)) (zAE b k)=some ((dl b (k+1)).Data):=by
    unfold jQ
    rw [if_pos (by rw [cV]; omega)]
    have:=zSy hk
    rw [hsl,Nat.min_self] at this ⊢
    rw [this]
  simp only
  rw [hcp,bnd_some]
  rfl
theorem zRs {l:List Bool} {k m:Nat} (h:l=List.replicate k true++List.replicate m false) (hl:k+m≤1000000):vJ l false=some (decide (0<m)):=by
  unfold vJ sY
  have hlen:l.length=k+m:=by rw [h]; simp
  have hg:∀ i,i<k+m→elt l (i:Int)=some (decide (i<k)):=fun i hi=>by
    rw [elt_nat,h]
    by_cases hk:i<k
    · rw [List.getElem?_append_left (by simpa using hk),List.getElem?_replicate_of_lt hk,decide_eq_true hk]
    · rw [List.getElem?_append_right (by simpa using hk),List.length_replicate,List.getElem?_replicate_of_lt (by omega),decide_eq_false hk]
  by_cases hm:0<m
  · refine yA (a := (k : Int)) ?_ (by rw [decide_eq_true (by omega : (k : Int) ≥ 0), decide_eq_true hm])
    refine yA (a:=.inl (k:Int)) ?_ rfl
    refine qD (fun i=>(i:Int)) k (fun i hi=>?_) ?_
    · rw [hlen, decide_eq_true (by omega : (i : Int) < ((k + m : Nat) : Int)), cond_true, hg i (by omega), bnd_some, decide_eq_true hi, zR hi (by omega)]
      rfl
    · rw [hlen, decide_eq_true (by omega : (k : Int) < ((k + m : Nat) : Int)), cond_true, hg k (by omega), bnd_some, decide_eq_false (by omega)]
      rfl
  · refine yA (a := -1) ?_ (by rw [decide_eq_false (by omega : ¬ 0 < m)]; rfl)
    refine xW (fun i=>(i:Int)) (k+m) (.inr ()) rfl (fun i hi=>?_) ?_ rfl
    · rw [hlen, decide_eq_true (by omega : (i : Int) < ((k + m : Nat) : Int)), cond_true, hg i hi, bnd_some, decide_eq_true (by omega), zR hi (by omega)]
      rfl
    · rw [hlen, decide_eq_false (by omega : ¬ ((k + m : Nat) : Int) < ((k + m : Nat) : Int))]
      rfl
theorem zHD {b:List Int} {k:Nat} (h1:1≤b.length) (h2:b.length≤8192) (hk:k≤wK b.length):wN (dl b k)=some (decide (k=wK b.length)):=by
  unfold wN
  have hc:wK b.length≤200:=by unfold wK; omega
  rw [zMg h1 h2 hk,bnd_some,cond_true,zRs (l:=(dl b k).Have) (k:=k) (m:=wK b.length - k) rfl (by omega),bnd_some,bnd_some]
  congr 1
  by_cases h:k=wK b.length
  · rw [decide_eq_true h,decide_eq_false (by omega)]; rfl
  · rw [decide_eq_false h,decide_eq_true (by omega)]; rfl
theorem zSY (b:List Int):(dl b (wK b.length)).Data=b:=by
  simp only [dl]
  have:b.length≤64*wK b.length:=by unfold wK; omega
  rw [List.take_of_length_le this,show b.length - 64*wK b.length=0 by omega]
  simp
theorem zVP {b:List Int} (h1:1≤b.length) (h2:b.length≤8192):sE (dl b (wK b.length))=some (b,0):=by
  unfold sE
  rw [zMg h1 h2 (Nat.le_refl _),bnd_some,Bool.not_true,cond_false,zHD h1 h2 (Nat.le_refl _),bnd_some,decide_eq_true rfl,Bool.not_true,cond_false,lV (by rw [cV]; omega),bnd_some,zSY]
end Go.Proofs.YtplchdlgdjcojaaGreatDoor
end
section
namespace Go.Proofs.YtplchdlgdjcojaaGreatDoor
open Go
set_option linter.unusedSimpArgs false
set_option linter.unusedVariables false
def itN {α:Type} (f:α→α):Nat→α→α
  | 0,x=>x
  | n+1,x=>f (itN f n x)
def kJ (x:Int):Prop:=0≤x∧x≤4294967295
theorem cS (x:Int):kJ (IntKind.wrap .u32 x):=by
  rw [lC]
  constructor <;> omega
theorem cL (x y:Int):kJ (fL .u32 x y):=cS _
def zET (c:Int):Int:=fL .u32 (vY .u32 c 1) (IntKind.wrap .u32 ((rP .u32 c 1)*3988292384))
def zMo (c x:Int):Int:=itN zET 8 (fL .u32 c (IntKind.wrap .u32 x))
def zDr (l:List Int):Int:=l.foldl zMo 4294967295
theorem zMd (c:Int):kJ (zET c):=cL _ _
theorem zHn {c:Int} (h:kJ c):∀ n,kJ (itN zET n c)
  | 0=>h
  | n+1=>zMd _
theorem zLL (c x:Int):kJ (zMo c x):=zHn (cL _ _) 8
theorem zIl (l:List Int):kJ (zDr l):=by
  unfold zDr
  have:∀ (l:List Int) (c:Int),kJ c→kJ (l.foldl zMo c):=by
    intro l
    induction l with
    | nil=>intro c h; exact h
    | cons x r ih=>intro c _; exact ih _ (zLL c x)
  exact this l _ ⟨by omega,by omega⟩
theorem eK {x:Int} (h:kJ x):(BitVec.ofInt 32 x).toNat=x.toNat:=by
  rw [BitVec.toNat_ofInt]
  have:=h.1
  have:=h.2
  omega
theorem zKU {x:Int} (h:kJ x):fL .u32 x 0=x:=by
  unfold fL
  have e:(BitVec.ofInt (IntKind.bits .u32) x ^^^ BitVec.ofInt (IntKind.bits .u32) 0).toNat=x.toNat:=by
    show (BitVec.ofInt 32 x ^^^ BitVec.ofInt 32 0).toNat=_
    rw [←eK h]
    simp
  rw [e,lC]
  have:=h.1
  have:=h.2
  omega
theorem zMT {x:Int} (h:kJ x):rP .u32 x 1=x % 2:=by
  unfold rP
  have e:(BitVec.ofInt (IntKind.bits .u32) x&&&BitVec.ofInt (IntKind.bits .u32) 1).toNat=x.toNat % 2:=by
    show (BitVec.ofInt 32 x&&&BitVec.ofInt 32 1).toNat=_
    rw [BitVec.toNat_and,eK h]
    have:(BitVec.ofInt 32 1).toNat=1:=by decide
    rw [this,Nat.and_one_is_mod]
  rw [e,lC]
  have:=h.1
  have:=h.2
  omega
theorem zLG {x:Int} (h:kJ x):vY .u32 x 1=x / 2:=by
  unfold vY
  have:(2:Int) ^ (min (Int.toNat 1) (IntKind.bits .u32))=2:=by decide
  rw [this,Int.fdiv_eq_ediv_of_nonneg _ (by omega)]
theorem zPP {c:Int} (h:kJ c):zET c=bif (c.tmod 2==1) then fL .u32 (IntKind.wrap .u32 (c.tdiv 2)) 3988292384 else IntKind.wrap .u32 (c.tdiv 2):=by
  unfold zET
  have h0:=h.1
  have h1:=h.2
  have hd:IntKind.wrap .u32 (c.tdiv 2)=c / 2:=by
    rw [Int.tdiv_eq_ediv_of_nonneg h0,zKN (by omega) (by omega)]
  have hm:c.tmod 2=c % 2:=Int.tmod_eq_emod_of_nonneg h0
  rw [zLG h,zMT h,hd,hm]
  rcases Int.emod_two_eq c with h2 | h2
  · rw [h2]
    have:IntKind.wrap .u32 (0*3988292384)=0:=by rw [lC]; decide
    rw [this,zKU ⟨by omega,by omega⟩]
    rfl
  · rw [h2]
    have:IntKind.wrap .u32 (1*3988292384)=3988292384:=by rw [lC]; decide
    rw [this]
    rfl
theorem zTH {c:Int} (h:kJ c):fL .u32 (if IntKind.signed .u32 then -1 else IntKind.max .u32) c=IntKind.wrap .u32 (4294967295 - c):=by
  have h0:=h.1
  have h1:=h.2
  have em:(if IntKind.signed .u32 then -1 else IntKind.max .u32:Int)=4294967295:=by decide
  rw [em]
  unfold fL
  have e:(BitVec.ofInt (IntKind.bits .u32) 4294967295 ^^^ BitVec.ofInt (IntKind.bits .u32) c).toNat=4294967295 - c.toNat:=by
    show (BitVec.ofInt 32 4294967295 ^^^ BitVec.ofInt 32 c).toNat=_
    have:BitVec.ofInt 32 4294967295=BitVec.allOnes 32:=by decide
    rw [this,←BitVec.not_def,BitVec.toNat_not,eK h]
  rw [e]
  congr 1
  omega
theorem zHA {α σ:Type} {m:σ × Int→Option (sQ (σ × Int) σ)} (xs:List α) (f:σ→α→σ) (s0:σ) (hn:xs.length≤140737488355328) (I:σ→Prop) (hI:I s0) (hf:∀ s x,I s→I (f s x))
    (hs:∀ (i:Nat) (s:σ) (h:i<xs.length),I s→m (s,(i:Int))=some (.next (f s xs[i],((i+1:Nat):Int)))) (hd:∀ s,m (s,(xs.length:Int))=some (.done s)):yD m (s0,0)=some (xs.foldl f s0):=by
  have hI2:∀ n,I ((xs.take n).foldl f s0):=by
    intro n
    have:∀ (l:List α) (s:σ),I s→I (l.foldl f s):=by
      intro l
      induction l with
      | nil=>intro s h; exact h
      | cons x r ih=>intro s h; exact ih _ (hf s x h)
    exact this _ _ hI
  have:=qD (m:=m) (fun i=>((xs.take i).foldl f s0,(i:Int))) xs.length (t:=xs.foldl f s0) (fun i hi=>?_) (by simp only [List.take_length]; exact hd _)
  · simpa using this
  · rw [hs i _ hi (hI2 i), xE hi, List.foldl_append]
    rfl
theorem zER (b:List Int) (hb:b.length≤140737488355328):wD b=some (IntKind.wrap .u32 (4294967295 - zDr b)):=by
  unfold wD
  rw [zHA b zMo 4294967295 hb (fun _=>True) trivial (fun _ _ _=>trivial) (fun i s hi _=>?_) (fun s=>by simp)]
  · simp only [bnd_some]
    exact congrArg some (zTH (zIl b))
  · have h1 : decide ((i : Int) < (b.length : Int)) = true := by simpa using hi
    simp only [h1,cond_true,yS hi,bnd_some]
    have:=qD (m:=fun (s2:Int × Int)=>bif decide (s2.2<8) then (some (.next (fL .u32 (vY .u32 s2.1 1) (IntKind.wrap .u32 ((rP .u32 s2.1 1)*3988292384)),IntKind.wrap .i64 (s2.2+1)))) else (some (.done s2.1))) (fun k=>(itN zET k (fL .u32 s (IntKind.wrap .u32 b[i])),(k:Int))) 8 (t:=zMo s b[i]) (fun k hk=>by
      have:decide ((k:Int)<8)=true:=by simp; omega
      simp only [this,cond_true]
      rw [zR (n:=8) hk (by omega)]
      rfl) rfl
    simp only [itN,Int.ofNat_zero] at this
    rw [this]
    simp only [bnd_some]
    rw [zR hi hb]
theorem zOn (b:List Int) (hb:b.length≤140737488355328):pT b=some (IntKind.wrap .u32 (4294967295 - zDr b)):=by
  unfold pT
  rw [zHA b zMo 4294967295 hb (fun _=>True) trivial (fun _ _ _=>trivial) (fun i s hi _=>?_) (fun s=>by simp)]
  · rfl
  · have h1 : decide ((i : Int) < (b.length : Int)) = true := by simpa using hi
    simp only [h1,cond_true,yS hi,bnd_some]
    have:=qD (m:=fun (s2:Int × Int)=>bif decide (s2.2<8) then (bif ((s2.1.tmod 2)==1) then (some (.next (fL .u32 (IntKind.wrap .u32 (s2.1.tdiv 2)) 3988292384,IntKind.wrap .i64 (s2.2+1)))) else (some (.next (IntKind.wrap .u32 (s2.1.tdiv 2),IntKind.wrap .i64 (s2.2+1))))) else (some (.done s2.1))) (fun k=>(itN zET k (fL .u32 s (IntKind.wrap .u32 b[i])),(k:Int))) 8 (t:=zMo s b[i]) (fun k hk=>by
      have h2:decide ((k:Int)<8)=true:=by simp; omega
      simp only [h2,cond_true]
      rw [zR (n:=8) hk (by omega)]
      have hr:kJ (itN zET k (fL .u32 s (IntKind.wrap .u32 b[i]))):=zHn (cL _ _) k
      show _=some (sQ.next (zET (itN zET k (fL .u32 s (IntKind.wrap .u32 b[i]))),_))
      rw [zPP hr]
      cases ((itN zET k (fL .u32 s (IntKind.wrap .u32 b[i]))).tmod 2==1) <;> rfl) rfl
    simp only [itN,Int.ofNat_zero] at this
    rw [this]
    simp only [bnd_some]
    rw [zR hi hb]
end Go.Proofs.YtplchdlgdjcojaaGreatDoor
end
section
namespace Go.Proofs.YtplchdlgdjcojaaGreatDoor
open Go
set_option linter.unusedSimpArgs false
set_option linter.unusedVariables false
theorem zTq {s:ByteArray} {i:Nat} (h:i<s.size):eltS s (i:Int)=some ((s[i]).toNat:Int):=by
  simp [eltS,h]
def chI (s:ByteArray) (i:Nat):Int:=((s[i]?).map fun b=>(b.toNat:Int)).getD 0
theorem zIx {s:ByteArray} {i:Nat} (h:i<s.size):eltS s (i:Int)=some (chI s i):=by
  rw [zTq h]
  simp [chI,h]
def jR (y:Int):Bool:=decide (y≥97)&&decide (y≤122)
def zGO (y:Int):Bool:=decide (y≥48)&&decide (y≤57)||(y==45)
def sN (s:ByteArray):Bool:=decide (1≤s.size)&&decide (s.size≤16)&&(jR (chI s 0)&&(List.range s.size).all fun i=>jR (chI s i)||zGO (chI s i))
theorem zDe (s:ByteArray):uC s=some (sN s):=by
  unfold uC
  by_cases h1:s.size<1
  · have : decide ((s.size : Int) < 1) = true := by simp; omega
    have h2:decide (1≤s.size)=false:=decide_eq_false (by omega)
    simp [this,sN,h2]
  by_cases h2:s.size>16
  · have e1 : decide ((s.size : Int) < 1) = false := by simp; omega
    have e2:decide ((s.size:Int)>16)=true:=by simp; omega
    have e3:decide (s.size≤16)=false:=by simp; omega
    simp [e1,e2,sN,e3]
  have e1:decide ((s.size:Int)<1)=false:=by simp; omega
  have e2:decide ((s.size:Int)>16)=false:=by simp; omega
  simp only [e1,e2,cond_false,bnd_some]
  have hl:=zEF (m:=fun (s1:Int)=>bif decide (s1<(s.size:Int)) then (bnd ((bnd (eltS s s1) fun y1=>bif decide (y1≥97) then (some (decide (y1≤122))) else (some false):Option Bool)) fun o4=>bnd ((bnd (eltS s s1) fun y2=>bif decide (y2≥48) then (bif decide (y2≤57) then (some true) else (some (y2==45))) else (some (y2==45)):Option Bool)) fun o5=>bnd ((bif !o4 then (bif (s1==0) then (some true) else (some (!o5))) else (some false):Option Bool)) fun o6=>bif o6 then (some (.done (.inl false))) else (some (.next (IntKind.wrap .i64 (s1+1))))) else (some (.done (.inr ()))))
    (fun i=>(i:Int)) s.size (fun i=>!jR (chI s i)&&(decide (i=0)||!zGO (chI s i))) (u:=(Sum.inl false:Bool ⊕ Unit)) (t:=.inr ()) (fun i hi=>?_) (by simp)
  · rw [show ((0 : Nat) : Int) = 0 from rfl] at hl
    rw [hl]
    simp only [bnd_some]
    have hn:sN s=!(List.range s.size).any (fun i=>!jR (chI s i)&&(decide (i=0)||!zGO (chI s i))):=by
      unfold sN
      have d1:decide (1≤s.size)=true:=by simp; omega
      have d2:decide (s.size≤16)=true:=by simp; omega
      rw [d1,d2,Bool.eq_iff_iff]
      simp only [Bool.true_and,Bool.and_eq_true,List.all_eq_true,List.mem_range,Bool.or_eq_true,Bool.not_eq_true',List.any_eq_false,decide_eq_true_eq,not_and,not_or]
      constructor
      · rintro ⟨g1, g2⟩ i hi hc
        rcases g2 i hi with g | g
        · simp [g] at hc
        · refine ⟨fun h0 => ?_, by simp [g]⟩
          subst h0
          simp [g1] at hc
      · intro g
        have hlet0:jR (chI s 0)=true:=by
          cases hc:jR (chI s 0)
          · exact absurd rfl (g 0 (by omega) (by simp [hc])).1
          · rfl
        refine ⟨hlet0,fun i hi=>?_⟩
        cases hc:jR (chI s i)
        · right
          have:=(g i hi (by simp [hc])).2
          simpa using this
        · exact .inl rfl
    rw [hn]
    cases (List.range s.size).any (fun i=>!jR (chI s i)&&(decide (i=0)||!zGO (chI s i))) <;> rfl
  · have h3 : decide ((i : Int) < (s.size : Int)) = true := by simpa using hi
    have h4:((i:Int)==0)=decide (i=0):=by
      rw [Bool.eq_iff_iff]; simp
    simp only [h3,cond_true,zIx hi,bnd_some,h4,zR hi (by omega:s.size≤140737488355328),jR,zGO]
    cases decide (chI s i≥97) <;> cases decide (chI s i≤122) <;> cases decide (chI s i≥48) <;> cases decide (chI s i≤57) <;> cases (chI s i==45) <;> cases decide (i=0) <;> rfl
theorem zKa (s:ByteArray):oX s=some (sN s):=by
  unfold oX
  by_cases h1:s.size<1
  · have : decide ((s.size : Int) < 1) = true := by simp; omega
    have h2:decide (1≤s.size)=false:=decide_eq_false (by omega)
    simp [this,sN,h2]
  by_cases h2:s.size>16
  · have e1 : decide ((s.size : Int) < 1) = false := by simp; omega
    have e2:decide ((s.size:Int)>16)=true:=by simp; omega
    have e3:decide (s.size≤16)=false:=by simp; omega
    simp [e1,e2,sN,e3]
  have e1:decide ((s.size:Int)<1)=false:=by simp; omega
  have e2:decide ((s.size:Int)>16)=false:=by simp; omega
  have hc0:eltS s 0=some (chI s 0):=zIx (i:=0) (by omega)
  have d1:decide (1≤s.size)=true:=by simp; omega
  have d2:decide (s.size≤16)=true:=by simp; omega
  simp only [e1,e2,cond_false,bnd_some,hc0]
  cases hl0:jR (chI s 0)
  · have hn : sN s = false := by simp [sN, hl0]
    rw [hn]
    simp only [jR,Bool.and_eq_false_iff,decide_eq_false_iff_not] at hl0
    by_cases g:chI s 0<97
    · simp [g]
    · have g2 : chI s 0 > 122 := by omega
      simp [g,g2]
  · have hl1 := hl0
    simp only [jR,Bool.and_eq_true,decide_eq_true_eq] at hl1
    have g1:decide (chI s 0<97)=false:=by simp; omega
    have g2:decide (chI s 0>122)=false:=by simp; omega
    simp only [g1,g2,cond_false,bnd_some]
    have hl:=zEF (m:=fun (s1:Int)=>bif decide (s1<(s.size:Int)) then (bnd ((bnd (eltS s s1) fun y2=>bif decide (y2≥97) then (bif decide (y2≤122) then (some false) else (bif decide (y2≥48) then (bif decide (y2≤57) then (some false) else (some (!(y2==45)))) else (some (!(y2==45))))) else (bif decide (y2≥48) then (bif decide (y2≤57) then (some false) else (some (!(y2==45)))) else (some (!(y2==45)))):Option Bool)) fun o4=>bif o4 then (some (.done (.inl false))) else (some (.next (IntKind.wrap .i64 (s1+1))))) else (some (.done (.inr ()))))
      (fun i=>(i:Int)) s.size (fun i=>!(jR (chI s i)||zGO (chI s i))) (u:=(Sum.inl false:Bool ⊕ Unit)) (t:=.inr ()) (fun i hi=>?_) (by simp)
    · rw [show ((0 : Nat) : Int) = 0 from rfl] at hl
      rw [hl]
      simp only [bnd_some]
      have hn:sN s=!(List.range s.size).any (fun i=>!(jR (chI s i)||zGO (chI s i))):=by
        unfold sN
        rw [d1,d2,hl0,Bool.eq_iff_iff]
        simp only [Bool.true_and,List.all_eq_true,List.mem_range,Bool.or_eq_true,Bool.not_eq_true',List.any_eq_false,Bool.not_eq_true,Bool.not_eq_false']
        constructor
        · intro g x hx hf
          rcases g x hx with g | g <;> simp [g] at hf
        · intro g x hx
          have:=g x hx
          cases a:jR (chI s x)
          · cases b : zGO (chI s x)
            · simp [a,b] at this
            · exact .inr rfl
          · exact .inl rfl
      rw [hn]
      cases (List.range s.size).any (fun i=>!(jR (chI s i)||zGO (chI s i))) <;> rfl
    · have h3 : decide ((i : Int) < (s.size : Int)) = true := by simpa using hi
      simp only [h3,cond_true,zIx hi,bnd_some,zR hi (by omega:s.size≤140737488355328),jR,zGO]
      cases decide (chI s i≥97) <;> cases decide (chI s i≤122) <;> cases decide (chI s i≥48) <;> cases decide (chI s i≤57) <;> cases (chI s i==45) <;> rfl
def zLb (n:Int):Bool:=decide (0≤n)&&decide (n≤999)
def iF (v:zJ):Bool:=zLb v.Major&&(zLb v.Minor&&zLb v.Patch)
theorem dlt (a b:Int):decide (a<b)=!decide (b≤a):=by
  by_cases h:b≤a
  · have : ¬ a < b := by omega
    simp [h,this]
  · have : a < b := by omega
    simp [h,this]
theorem zJN (v:zJ):vG v=some (iF v):=by
  unfold vG vD iF zLb
  simp only [bnd_some,gt_iff_lt,dlt]
  cases decide (0≤v.Major) <;> cases decide (v.Major≤999) <;> cases decide (0≤v.Minor) <;> cases decide (v.Minor≤999) <;> cases decide (0≤v.Patch) <;> cases decide (v.Patch≤999) <;> rfl
theorem zOh (v:zJ):pR v=some (iF v):=by
  unfold pR iF zLb
  simp only [ge_iff_le]
  cases decide (0≤v.Major) <;> cases decide (v.Major≤999) <;> cases decide (0≤v.Minor) <;> cases decide (v.Minor≤999) <;> cases decide (0≤v.Patch) <;> cases decide (v.Patch≤999) <;> rfl
def wJ (i:zH):Bool:=sN i.Name&&(iF i.Version&&(decide (1≤i.Data.length)&&decide (i.Data.length≤512)))
theorem gL (i:zH):uZ i=some (wJ i):=by
  unfold uZ wJ
  have e1:decide ((i.Data.length:Int)≥1)=decide (1≤i.Data.length):=by rw [Bool.eq_iff_iff]; simp; omega
  have e2:decide ((i.Data.length:Int)≤512)=decide (i.Data.length≤512):=by rw [Bool.eq_iff_iff]; simp; omega
  simp only [zDe,zJN,bnd_some,e1,e2]
  cases sN i.Name <;> cases iF i.Version <;> cases decide (1≤i.Data.length) <;> cases decide (i.Data.length≤512) <;> rfl
theorem zDs (i:zH):pO i=some (wJ i):=by
  unfold pO wJ
  have e1:decide ((i.Data.length:Int)≥1)=decide (1≤i.Data.length):=by rw [Bool.eq_iff_iff]; simp; omega
  have e2:decide ((i.Data.length:Int)≤512)=decide (i.Data.length≤512):=by rw [Bool.eq_iff_iff]; simp; omega
  simp only [zKa,zOh,bnd_some,e1,e2]
  cases sN i.Name <;> cases iF i.Version <;> cases decide (1≤i.Data.length) <;> cases decide (i.Data.length≤512) <;> rfl
theorem rU {i:zH} (h:wJ i=true):sN i.Name=true∧iF i.Version=true∧1≤i.Data.length∧i.Data.length≤512:=by
  simpa [wJ] using h
theorem tD {s:ByteArray} (h:sN s=true):1≤s.size∧s.size≤16:=by
  simp only [sN,Bool.and_eq_true,decide_eq_true_eq] at h
  exact h.1
theorem qR (s:ByteArray):(nA s).length=s.size:=by simp [nA,ByteArray.toList_eq]
def two (n:Int):List Int:= [IntKind.wrap .u8 (vY .i64 n 8),IntKind.wrap .u8 n]
def zAI (v:zJ):List Int:=two v.Major++(two v.Minor++two v.Patch)
def zEX (i:zH):List Int:=IntKind.wrap .u8 (i.Name.size:Int)::(nA i.Name++(zAI i.Version++(two (i.Data.length:Int)++i.Data)))
theorem oZ {xs ys:List Int} (h:xs.length+ys.length≤140737488355328):app 1 xs ys=some (xs++ys):=uW (by omega) (by omega)
theorem aR {i:zH} (h:i.Name.size≤16∧i.Data.length≤512):(zEX i).length≤600:=by
  simp [zEX,zAI,two,qR]
  omega
theorem zFX {i:zH} (h:i.Name.size≤16∧i.Data.length≤512):qM i=some (zEX i):=by
  have hb:=qR i.Name
  unfold qM rS vS uT
  rw [oZ (by simp)]
  simp only [bnd_some,List.nil_append]
  rw [oZ (by simp [hb]; omega)]
  simp only [bnd_some]
  rw [oZ (by simp [hb]; omega)]
  simp only [bnd_some]
  rw [oZ (by simp [hb]; omega)]
  simp only [bnd_some]
  rw [oZ (by simp [hb]; omega)]
  simp only [bnd_some]
  rw [oZ (by simp [hb]; omega)]
  simp only [bnd_some]
  rw [oZ (by simp [hb]; omega)]
  simp [zEX,zAI,two]
theorem zHX {i:zH} (h:i.Name.size≤16∧i.Data.length≤512):pN i=some (zEX i):=by
  have hb:=qR i.Name
  unfold pN qZ uI qT
  rw [oZ (by simp [hb]; omega)]
  simp only [bnd_some]
  rw [oZ (by simp)]
  simp only [bnd_some]
  rw [oZ (by simp)]
  simp only [bnd_some]
  rw [oZ (by simp [hb]; omega)]
  simp only [bnd_some]
  rw [oZ (by simp [hb]; omega)]
  simp only [bnd_some]
  rw [oZ (by simp [hb]; omega)]
  simp [zEX,zAI,two]
def mZ (i:zH):Int:=bif wJ i then IntKind.wrap .u32 (4294967295 - zDr (zEX i)) else 0
theorem zBC (i:zH):qX i=some (mZ i):=by
  unfold qX mZ
  rw [gL]
  cases h:wJ i
  · rfl
  · obtain ⟨h1, h2, h3, h4⟩ := rU h
    have hs:i.Name.size≤16∧i.Data.length≤512:=⟨(tD h1).2,h4⟩
    have hl:=aR hs
    simp only [bnd_some,Bool.not_true,cond_false,zFX hs]
    rw [zER _ (by omega)]
    rfl
theorem zNJ (i:zH):jO i=some (mZ i):=by
  unfold jO mZ
  rw [zDs]
  cases h:wJ i
  · rfl
  · obtain ⟨h1, h2, h3, h4⟩ := rU h
    have hs:i.Name.size≤16∧i.Data.length≤512:=⟨(tD h1).2,h4⟩
    have hl:=aR hs
    simp only [bnd_some,Bool.not_true,cond_false,zHX hs]
    rw [zOn _ (by omega)]
    rfl
theorem zBt (i:zH):kJ (mZ i):=by
  unfold mZ
  cases wJ i
  · exact ⟨by show (0:Int)≤0; omega,by show (0:Int)≤4294967295; omega⟩
  · exact cS _
def zCJ (s:yE):Bool:=wJ s.Image&&(s.Sum==mZ s.Image)
def oO (s:yE) (n:ByteArray):Bool:=zCJ s&&decide (s.Image.Name=n)
theorem zMY (s:yE):iY s=some (zCJ s):=by
  unfold iY zCJ
  simp only [gL,zBC,bnd_some]
  cases wJ s.Image <;> rfl
theorem zEJ (d:zB) (s:yE):oH d s=some (oO s d.Name):=by
  unfold oH oO
  simp only [zMY,bnd_some,cJ]
  cases zCJ s <;> rfl
end Go.Proofs.YtplchdlgdjcojaaGreatDoor
end
section
namespace Go.Proofs.YtplchdlgdjcojaaGreatDoor
open Go
set_option linter.unusedSimpArgs false
set_option linter.unusedVariables false
def bit (k:Int):Prop:=k=0∨k=1
instance (k:Int):Decidable (bit k):=by unfold bit; infer_instance
def tW (a:qO yE) (k:Int):yE:=if k=0 then a.e0 else a.e1
def lW (a:qO yE) (k:Int) (y:yE):qO yE:=if k=0 then ⟨y,a.e1⟩ else ⟨a.e0,y⟩
def zQS:zH:=⟨⟨#[]⟩,⟨0,0,0⟩, []⟩
def lJ:yE:=⟨zQS,0⟩
def aY:zB:=⟨⟨#[]⟩,⟨lJ,lJ⟩,0,0,false⟩
theorem zFP (a:qO yE) {k:Int} (h:bit k):elt [a.e0,a.e1] k=some (tW a k):=by
  rcases h with rfl | rfl <;> rfl
theorem zVl (a:qO yE) (y:yE) {k:Int} (h:bit k):qO.set a k y=some (lW a k y):=by
  rcases h with rfl | rfl <;> rfl
theorem zVR {k:Int} (h:bit k):IntKind.wrap .i64 (1 - k)=1 - k:=by
  rcases h with rfl | rfl <;> exact yO (by omega) (by omega)
theorem sK {k:Int} (h:bit k):bit (1 - k):=by rcases h with rfl | rfl <;> simp [bit]
theorem zGa {a:qO yE} {y:yE} {k:Int}:tW (lW a k y) k=y:=by
  unfold tW lW; by_cases h:k=0 <;> simp [h]
theorem zLo {a:qO yE} {y:yE} {k j:Int} (hk:bit k) (hj:bit j) (h:j≠k):tW (lW a k y) j=tW a j:=by
  rcases hk with rfl | rfl <;> rcases hj with rfl | rfl <;> simp_all [tW,lW]
def lL (d:zB):Bool:=
  decide (bit d.Active)&&(decide (bit d.Running)&&(oO (tW d.Slots d.Active) d.Name&&(oO (tW d.Slots d.Running) d.Name&&(!d.Trial||(decide (d.Running=d.Active)&&oO (tW d.Slots (1 - d.Active)) d.Name)))))
theorem zGW (k:Int):k<0∨bit k∨k>1:=by unfold bit; omega
theorem mY (d:zB):vZ d=some (lL d):=by
  unfold vZ lL uR
  simp only [zEJ,bnd_some]
  rcases zGW d.Active with h | h | h
  · have h1 : ¬ bit d.Active := by unfold bit; omega
    simp [h,h1]
  · have g1 : decide (d.Active < 0) = false := by rcases h with h | h <;> rw [h] <;> rfl
    have g2:decide (d.Active>1)=false:=by rcases h with h | h <;> rw [h] <;> rfl
    simp only [g1,g2,cond_false,h,decide_true,Bool.true_and,zFP _ h,bnd_some]
    rcases zGW d.Running with k | k | k
    · have k1 : ¬ bit d.Running := by unfold bit; omega
      simp [k,k1]
    · have k1 : decide (d.Running < 0) = false := by rcases k with k | k <;> rw [k] <;> rfl
      have k2:decide (d.Running>1)=false:=by rcases k with k | k <;> rw [k] <;> rfl
      simp only [k1,k2,cond_false,k,decide_true,Bool.true_and,zFP _ k,bnd_some,zVR k,zFP _ (sK k)]
      have e:(d.Running==d.Active)=decide (d.Running=d.Active):=rfl
      rw [e]
      by_cases hra:d.Running=d.Active
      · simp only [hra, decide_true, cond_true]
        cases oO (tW d.Slots d.Active) d.Name <;> cases oO (tW d.Slots (1 - d.Active)) d.Name <;> cases d.Trial <;> rfl
      · simp only [hra, decide_false, cond_false]
        cases oO (tW d.Slots d.Active) d.Name <;> cases oO (tW d.Slots d.Running) d.Name <;> cases d.Trial <;> rfl
    · have k1 : ¬ bit d.Running := by unfold bit; omega
      have k2:decide (d.Running<0)=false:=by simp; omega
      simp [k,k1,k2]
  · have h1 : ¬ bit d.Active := by unfold bit; omega
    have h2:decide (d.Active<0)=false:=by simp; omega
    simp [h,h1,h2]
structure VD (d:zB):Prop where
  ba:bit d.Active
  br:bit d.Running
  ga:oO (tW d.Slots d.Active) d.Name=true
  gr:oO (tW d.Slots d.Running) d.Name=true
  tr:d.Trial=true→d.Running=d.Active∧oO (tW d.Slots (1 - d.Active)) d.Name=true
theorem rD (d:zB):lL d=true↔VD d:=by
  unfold lL
  simp only [Bool.and_eq_true,decide_eq_true_eq,Bool.or_eq_true,Bool.not_eq_true']
  constructor
  · rintro ⟨h1, h2, h3, h4, h5⟩
    exact ⟨h1,h2,h3,h4,fun ht=>by rcases h5 with h5 | h5 <;> simp_all⟩
  · rintro ⟨h1, h2, h3, h4, h5⟩
    refine ⟨h1,h2,h3,h4,?_⟩
    cases ht:d.Trial
    · exact .inl rfl
    · exact .inr (h5 ht)
def wrE (d:zB):Int:=bif lL d then (bif (d.Running != d.Active) then 46 else bif d.Trial then 46 else 0) else 1
theorem zEf (d:zB):tN d=some (wrE d):=by
  unfold tN wrE
  simp only [mY,bnd_some]
  cases lL d <;> cases (d.Running != d.Active) <;> cases d.Trial <;> rfl
theorem zEg {d:zB} (h:wrE d=0):VD d∧d.Running=d.Active∧d.Trial=false:=by
  unfold wrE at h
  cases hv:lL d
  · simp [hv] at h
  · simp only [hv, cond_true] at h
    cases hr:(d.Running != d.Active)
    · simp only [hr, cond_false] at h
      cases ht:d.Trial
      · exact ⟨(rD d).1 hv,by simpa using hr,rfl⟩
      · simp [ht] at h
    · simp [hr] at h
theorem zNQ {d:zB} (h:VD d) (hr:d.Running=d.Active) (ht:d.Trial=false):wrE d=0:=by
  unfold wrE
  rw [(rD d).2 h,hr,ht]
  simp
def small (i:zH):Prop:=i.Data.length≤1000
def oS (d:zB):Prop:=small d.Slots.e0.Image∧small d.Slots.e1.Image
theorem zMn {d:zB} (h:oS d) {k:Int} {y:yE} (hy:small y.Image):small (lW d.Slots k y).e0.Image∧small (lW d.Slots k y).e1.Image:=by
  unfold lW
  split
  · exact ⟨hy,h.2⟩
  · exact ⟨h.1,hy⟩
theorem dX {i:zH} (h:small i):pC i=some i:=by
  unfold pC zP
  unfold small at h
  rw [oZ (by simp; omega)]
  rfl
theorem zOO {i:zH} (h:small i):jH i=some i:=by
  unfold jH
  unfold small at h
  rw [oZ (by simp; omega)]
  rfl
theorem mW {d:zB} (h:oS d):uS d=some d:=by
  unfold uS
  rw [dX h.1]
  simp only [bnd_some]
  rw [dX h.2]
  rfl
def zIV (d:zB):zB × Int:=bif (wrE d != 0) then (aY,wrE d) else (⟨d.Name,lW d.Slots (1 - d.Running) lJ,d.Active,d.Running,d.Trial⟩,0)
def bA (d:zB) (i:zH) (n:Int):Bool:=wJ i&&(decide (i.Name=d.Name)&&(decide (0≤n)&&decide (n≤(i.Data.length:Int))))
def zJe (d:zB) (i:zH) (n:Int):zB × Int:=
  bif (wrE d != 0) then (aY,wrE d) else bif bA d i n then (⟨d.Name,lW d.Slots (1 - d.Running) ⟨⟨i.Name,i.Version,i.Data.take n.toNat⟩,0⟩,d.Active,d.Running,d.Trial⟩,0) else (aY,2)
def zEh (d:zB) (s:Int):zB × Int:=
  bif (wrE d != 0) then (aY,wrE d) else bif oO ⟨(tW d.Slots (1 - d.Running)).Image,s⟩ d.Name then (⟨d.Name,lW d.Slots (1 - d.Running) ⟨(tW d.Slots (1 - d.Running)).Image,s⟩,d.Active,d.Running,d.Trial⟩,0) else (aY,5)
def zEp (d:zB):zB × Int:=
  bif (wrE d != 0) then (aY,wrE d) else bif oO (tW d.Slots (1 - d.Running)) d.Name then (⟨d.Name,d.Slots,d.Active,d.Running,true⟩,0) else (aY,46)
def zAl (d:zB):zB:=bif lL d then (bif d.Trial then ⟨d.Name,d.Slots,d.Active,1 - d.Active,false⟩ else ⟨d.Name,d.Slots,d.Active,d.Active,d.Trial⟩) else aY
def zCx (d:zB):zB × Int:=bif lL d then (bif d.Trial then (aY,46) else (⟨d.Name,d.Slots,d.Running,d.Running,d.Trial⟩,0)) else (aY,1)
def fC (d:zB):zJ:=bif lL d then (tW d.Slots d.Running).Image.Version else ⟨0,0,0⟩
def zBY (i:zH):zB × Int:=bif wJ i then (⟨i.Name,⟨⟨i,mZ i⟩,lJ⟩,0,0,false⟩,0) else (aY,1)
theorem zKF {i:zH} (h:small i):mM i=some (zBY i):=by
  unfold mM zBY
  simp only [gL,dX h,zBC,bnd_some]
  cases wJ i <;> rfl
theorem zTm {i:zH} (h:small i):fV i=some (zBY i):=by
  unfold fV zBY
  simp only [zDs,zOO h,zNJ,bnd_some]
  cases wJ i <;> rfl
theorem fF {d:zB} (h:bit d.Running):uR d=some (1 - d.Running):=by
  unfold uR
  rw [zVR h,zFP _ (sK h)]
  rfl
theorem zNa {d:zB} (h:oS d):iW d=some (zIV d):=by
  unfold iW zIV
  simp only [zEf,mW h,bnd_some]
  by_cases hw:wrE d=0
  · obtain ⟨hv, hr, ht⟩ := zEg hw
    have e:(wrE d != 0)=false:=by simp [hw]
    simp only [e,cond_false,fF hv.br,bnd_some,zFP _ (sK hv.br),zVl _ _ (sK hv.br)]
    rfl
  · have e : (wrE d != 0) = true := by simp [hw]
    simp only [e,cond_true]
    rfl
theorem zSD {α:Type} {l:List α} {n:Int} (h0:0≤n) (h1:n≤(l.length:Int)):sub l 0 n=some (l.take n.toNat):=by
  simp [sub,h0,h1]
theorem zMc {d:zB} {i:zH} (h:oS d) (hi:small i) (n:Int):hZ d i n=some (zJe d i n):=by
  unfold hZ zJe
  simp only [zEf,gL,cJ,bnd_some]
  by_cases hw:wrE d=0
  · obtain ⟨hv, hr, ht⟩ := zEg hw
    have e:(wrE d != 0)=false:=by simp [hw]
    simp only [e,cond_false,gt_iff_lt,dlt]
    have eo:(bif !wJ i then some true else bif !decide (i.Name=d.Name) then some true else bif !decide (0≤n) then some true else some (!decide (n≤(i.Data.length:Int))):Option Bool)=some (!bA d i n):=by
      unfold bA
      cases wJ i <;> cases decide (i.Name=d.Name) <;> cases decide (0≤n) <;> cases decide (n≤(i.Data.length:Int)) <;> rfl
    rw [eo]
    simp only [bnd_some]
    cases ho:bA d i n
    · rfl
    · simp only [bA, Bool.and_eq_true, decide_eq_true_eq] at ho
      have hs:small (⟨i.Name,i.Version,i.Data.take n.toNat⟩:zH):=by
        unfold small at*
        simp
        omega
      simp only [Bool.not_true,cond_false,cond_true,mW h,bnd_some,zSD ho.2.2.1 ho.2.2.2,fF hv.br,dX hs,zFP _ (sK hv.br),zVl _ _ (sK hv.br)]
  · have e : (wrE d != 0) = true := by simp [hw]
    simp only [e,cond_true]
    rfl
theorem zJF {d:zB} (h:oS d) (s:Int):jG d s=some (zEh d s):=by
  unfold jG zEh
  simp only [zEf,mW h,bnd_some]
  by_cases hw:wrE d=0
  · obtain ⟨hv, hr, ht⟩ := zEg hw
    have e:(wrE d != 0)=false:=by simp [hw]
    simp only [e,cond_false,fF hv.br,bnd_some,zFP _ (sK hv.br),zVl _ _ (sK hv.br),zEJ]
    rw [fF (d:=⟨d.Name,lW d.Slots (1 - d.Running) ⟨(tW d.Slots (1 - d.Running)).Image,s⟩,d.Active,d.Running,d.Trial⟩) hv.br]
    simp only [bnd_some,zFP _ (sK hv.br),zGa]
    cases oO ⟨(tW d.Slots (1 - d.Running)).Image,s⟩ d.Name <;> rfl
  · have e : (wrE d != 0) = true := by simp [hw]
    simp only [e,cond_true]
    rfl
theorem aX {d:zB} (h:oS d):nW d=some (zEp d):=by
  unfold nW zEp
  simp only [zEf,mW h,bnd_some]
  by_cases hw:wrE d=0
  · obtain ⟨hv, hr, ht⟩ := zEg hw
    have e:(wrE d != 0)=false:=by simp [hw]
    simp only [e,cond_false,fF hv.br,bnd_some,zFP _ (sK hv.br),zEJ]
    cases oO (tW d.Slots (1 - d.Running)) d.Name <;> rfl
  · have e : (wrE d != 0) = true := by simp [hw]
    simp only [e,cond_true]
    rfl
theorem dI {d:zB} (h:oS d):mV d=some (zAl d):=by
  unfold mV zAl
  simp only [mY,mW h,bnd_some]
  cases hv:lL d
  · rfl
  · have := ((rD d).1 hv).ba
    simp only [zVR this,Bool.not_true,cond_false,cond_true]
    cases d.Trial <;> rfl
theorem zCq {d:zB} (h:oS d):oM d=some (zCx d):=by
  unfold oM zCx
  simp only [mY,mW h,bnd_some]
  cases lL d <;> cases d.Trial <;> rfl
theorem zJa (d:zB):lR d=some (fC d):=by
  unfold lR fC
  simp only [mY,bnd_some]
  cases hv:lL d
  · rfl
  · simp only [Bool.not_true,cond_false,cond_true,zFP _ ((rD d).1 hv).br,bnd_some]
theorem aS (i:zH):uE i i=some true:=by
  unfold uE
  simp
theorem zOV (d:zB):gC d d=some true:=by
  unfold gC
  simp [aS]
end Go.Proofs.YtplchdlgdjcojaaGreatDoor
end
section
namespace Go.Proofs.YtplchdlgdjcojaaGreatDoor
open Go
set_option linter.unusedSimpArgs false
set_option linter.unusedVariables false
theorem zMp {x:Int}:inK .u8 x↔0≤x∧x≤255:=Iff.rfl
structure uK (c:wH):Prop where
  hl:∀ x∈c.L,inK .u8 x
  h0:0≤c.At
  hn:c.L.length≤140737488355328
  ha:c.At≤(c.L.length:Int)
theorem zPA {a b:Int} (ha:0≤a∧a<65536) (hb:0≤b∧b<65536):0≤iOr .i64 a b∧iOr .i64 a b<65536:=by
  unfold iOr
  have e:(BitVec.ofInt (IntKind.bits .i64) a|||BitVec.ofInt (IntKind.bits .i64) b).toNat=a.toNat|||b.toNat:=by
    show (BitVec.ofInt 64 a|||BitVec.ofInt 64 b).toNat=_
    rw [BitVec.toNat_or,BitVec.toNat_ofInt,BitVec.toNat_ofInt]
    congr 1 <;> omega
  rw [e]
  have h:=Nat.or_lt_two_pow (x:=a.toNat) (y:=b.toNat) (n:=16) (by omega) (by omega)
  rw [yO (by omega) (by omega)]
  omega
theorem zWs {x:Int} (h:0≤x∧x≤255):kT .i64 x 8=x*256:=by
  unfold kT
  have:(2:Int) ^ (min (Int.toNat 8) (IntKind.bits .i64))=256:=by decide
  rw [this,yO (by omega) (by omega)]
theorem zNv {v n:Int} (hv:0≤v) (hn:1≤n):∃ x,zKv v n=some x∧0≤x∧x<n:=by
  refine ⟨v % n,?_,Int.emod_nonneg _ (by omega),Int.emod_lt_of_pos _ (by omega)⟩
  unfold zKv
  rw [if_neg (by omega),Int.tmod_eq_emod_of_nonneg hv]
theorem zTU {c:wH} (h:uK c) (n:Int):∃ c' x,yJ c n=some (c',x)∧uK c'∧0≤x∧(x=0∨x<n):=by
  unfold yJ sR
  simp only [bnd_some]
  obtain ⟨hl,h0,hn,ha⟩:=h
  by_cases hlt:c.At<(c.L.length:Int)
  · have d1 : decide (c.At < (c.L.length : Int)) = true := by simpa using hlt
    simp only [d1,Bool.not_true,cond_false,bnd_some]
    by_cases hn1:n<1
    · simp only [hn1, decide_true, cond_true]
      exact ⟨c,0,rfl,⟨hl,h0,hn,ha⟩,by omega, .inl rfl⟩
    simp only [hn1,decide_false,cond_false]
    obtain ⟨k,hk⟩:∃ k:Nat,c.At=(k:Int):=⟨c.At.toNat,by omega⟩
    have hkl:k<c.L.length:=by omega
    have hx:=zMp.1 (hl _ (List.getElem_mem hkl))
    rw [hk,yS hkl]
    simp only [bnd_some]
    have hw:IntKind.wrap .i64 ((k:Int)+1)=((k+1:Nat):Int):=zR hkl hn
    have hx':IntKind.wrap .i64 c.L[k]=c.L[k]:=yO (by omega) (by omega)
    rw [hw,hx']
    have hok1:uK (⟨c.L,((k+1:Nat):Int)⟩:wH):=⟨hl,by show (0:Int)≤((k+1:Nat):Int); omega,hn,by show ((k+1:Nat):Int)≤(c.L.length:Int); omega⟩
    by_cases hbig:n>256∧k+1<c.L.length
    · have d2 : decide (n > 256) = true := by simpa using hbig.1
      have d3:decide (((k+1:Nat):Int)<(c.L.length:Int))=true:=by simp; omega
      have hy:=zMp.1 (hl _ (List.getElem_mem hbig.2))
      have hy':IntKind.wrap .i64 c.L[k+1]=c.L[k+1]:=yO (by omega) (by omega)
      simp only [d2,d3,cond_true,bnd_some,yS hbig.2,hy',zWs hy]
      have ho:=zPA (a:=c.L[k]) (b:=c.L[k+1]*256) (by omega) (by omega)
      obtain ⟨x,e1,e2,e3⟩:=zNv (n:=n) ho.1 (by omega)
      rw [e1]
      have hw2:IntKind.wrap .i64 (((k+1:Nat):Int)+1)=((k+2:Nat):Int):=zR hbig.2 hn
      exact ⟨_,x,rfl,⟨hl,by show 0≤IntKind.wrap .i64 _; rw [hw2]; omega,hn,by show IntKind.wrap .i64 _≤(c.L.length:Int); rw [hw2]; omega⟩,e2, .inr e3⟩
    · have d2 : (bif decide (n > 256) then some (decide (((k + 1 : Nat) : Int) < (c.L.length : Int))) else some false : Option Bool) = some false := by
        by_cases g:n>256
        · have : ¬ k + 1 < c.L.length := fun h => hbig ⟨g, h⟩
          have d3:decide (((k+1:Nat):Int)<(c.L.length:Int))=false:=by simp; omega
          rw [d3]
          simp [g]
        · simp [g]
      rw [d2]
      simp only [bnd_some,cond_false]
      obtain ⟨x,e1,e2,e3⟩:=zNv (n:=n) hx.1 (by omega)
      rw [e1]
      exact ⟨_,x,rfl,hok1,e2, .inr e3⟩
  · have d1 : decide (c.At < (c.L.length : Int)) = false := by simpa using hlt
    simp only [d1,Bool.not_false,cond_true,bnd_some]
    exact ⟨c,0,rfl,⟨hl,h0,hn,ha⟩,by omega, .inl rfl⟩
theorem zOL {l:List Int} (h:okL (inK .u8) l) {most:Int} (h0:0≤most) (h1:most≤100000):∃ c,fW l most=some c∧uK c:=by
  unfold fW
  have hs:sub l 0 (min (l.length:Int) most)=some (l.take (min (l.length:Int) most).toNat):=by
    unfold sub
    rw [if_pos ⟨by omega,by omega,by omega⟩]
    simp
  rw [hs]
  refine ⟨_,rfl,fun x hx=>h.1 x (List.mem_of_mem_take hx),by simp,?_,by simp⟩
  simp only [List.length_take]
  omega
end Go.Proofs.YtplchdlgdjcojaaGreatDoor
end
section
namespace Go.Proofs.YtplchdlgdjcojaaGreatDoor
open Go
set_option linter.unusedSimpArgs false
set_option linter.unusedVariables false
structure Inv (d:zB) (n:ByteArray):Prop where
  vd:VD d
  nm:d.Name=n
  sm:oS d
theorem zJg {d:zB} {n:ByteArray} (h:Inv d n) (hr:d.Running=d.Active) (ht:d.Trial=false) {y:yE} (hy:small y.Image):
    Inv ⟨d.Name,lW d.Slots (1 - d.Running) y,d.Active,d.Running,d.Trial⟩ n:=by
  obtain ⟨⟨ba,br,ga,gr,tr⟩,nm,sm⟩:=h
  have hne:d.Running≠1 - d.Running:=by rcases br with h | h <;> rw [h] <;> decide
  have e:tW (lW d.Slots (1 - d.Running) y) d.Running=tW d.Slots d.Running:=zLo (sK br) br hne
  refine ⟨⟨ba,br,?_,?_,fun h=>?_⟩,nm,zMn sm hy⟩
  · simp only; rw [←hr,e]; exact gr
  · simp only; rw [e]; exact gr
  · rw [ht] at h; cases h
theorem zFF:small zQS:=by unfold small zQS; simp
theorem zSQ {i:zH} (h:wJ i=true):Inv (zBY i).1 i.Name∧(zBY i).2=0∧(zBY i).1=⟨i.Name,⟨⟨i,mZ i⟩,lJ⟩,0,0,false⟩:=by
  unfold zBY
  rw [h]
  have hs:=rU h
  have hg:oO ⟨i,mZ i⟩ i.Name=true:=by simp [oO,zCJ,h]
  refine ⟨⟨⟨.inl rfl, .inl rfl,hg,hg,fun h=>by cases h⟩,rfl,?_,zFF⟩,rfl,rfl⟩
  show i.Data.length≤1000
  omega
theorem zQp {v:zJ} (h1:0≤v.Major) (h2:v.Major≤999) (h3:0≤v.Minor) (h4:v.Minor≤999) (h5:0≤v.Patch) (h6:v.Patch≤999):iF v=true:=by
  simp [iF,zLb, *]
theorem zRJ {i:zH} (h1:sN i.Name=true) (h2:iF i.Version=true) (h3:1≤i.Data.length) (h4:i.Data.length≤512):wJ i=true:=by
  simp [wJ, *]
end Go.Proofs.YtplchdlgdjcojaaGreatDoor
end
section
namespace Go.Proofs.YtplchdlgdjcojaaGreatDoor
open Go
set_option linter.unusedSimpArgs false
set_option linter.unusedVariables false
theorem zCD:∀ (x y:List UInt8),(Op.bytesLess x y||(x==y))=!Op.bytesLess y x
  | [], []=>rfl
  | [],_::_=>rfl
  | _::_, []=>rfl
  | a::x,b::y=>by
    have ih:=zCD x y
    simp only [Op.bytesLess,List.cons_beq_cons]
    by_cases h:a=b
    · subst h
      have:¬ a<a:=UInt8.lt_irrefl a
      simp [this]
      simpa using ih
    · have h1 : (a == b) = false := by simpa using h
      have h2:(b==a)=false:=by simpa using fun e=>h e.symm
      rw [h1,h2]
      simp only [Bool.false_and,Bool.or_false]
      by_cases hl:a<b
      · have : ¬ b < a := UInt8.lt_asymm hl
        simp [hl,this]
      · have : b < a := by
          rcases UInt8.lt_or_lt_of_ne h with g | g
          · exact absurd g hl
          · exact g
        simp [hl,this]
def zPd (x:Nat):Bool:=decide (97≤x)&&decide (x≤122)
def zHm (x:Nat):Bool:=(decide (48≤x)&&decide (x≤57))||x==45
def lD (s:ByteArray):Bool:=decide (1≤(bs s).length)&&decide ((bs s).length≤16)&&(List.range (bs s).length).all fun i=>match (bs s)[i]? with | some x=>zPd x||(i != 0&&zHm x) | none=>true
def zBU (v:zJ):Bool:=decide (0≤v.Major)&&decide (v.Major≤999)&&(decide (0≤v.Minor)&&decide (v.Minor≤999))&&(decide (0≤v.Patch)&&decide (v.Patch≤999))
theorem zAk {α:Type} (l:List α) (p:α→Bool):(l.any fun x=>!p x)=!l.all p:=by
  induction l with
  | nil=>rfl
  | cons x r ih=>simp [ih,Bool.not_and]
theorem zIS (s:ByteArray):uC s=some (lD s):=by
  unfold uC
  have hl:(bs s).length=s.size:=bs_len s
  by_cases h:(s.size<1)∨(16<s.size)
  · have e1 : (bif decide ((s.size : Int) < 1) then some true else some (decide ((s.size : Int) > 16)) : Option Bool) = some true := by
      by_cases h1:s.size<1
      · have : decide ((s.size : Int) < 1) = true := by simp; omega
        rw [this]; rfl
      · have : decide ((s.size : Int) < 1) = false := by simp; omega
        rw [this]; simp; omega
    rw [e1]
    have:lD s=false:=by
      unfold lD
      rw [hl]
      rcases h with h | h
      · have : decide (1 ≤ s.size) = false := decide_eq_false (by omega)
        rw [this]; rfl
      · have : decide (s.size ≤ 16) = false := decide_eq_false (by omega)
        rw [this]; simp
    rw [this]
    rfl
  · have h1 : decide ((s.size : Int) < 1) = false := by simp; omega
    have h2:decide ((s.size:Int)>16)=false:=by simp; omega
    simp only [h1,h2,cond_false,bnd_some]
    refine nC (fun (i:Nat)=>(i:Int)) s.size (fun i=>match (bs s)[i]? with | some x=>!(zPd x||(i != 0&&zHm x)) | none=>false) (.inl false) (.inr ()) rfl (fun i hi=>?_) ?_ ?_
    · have hib : i < (bs s).length := by omega
      have d0:decide ((i:Int)<(s.size:Int))=true:=by simp; omega
      simp only [d0,cond_true,zSX hi,bnd_some,zR hi (by omega)]
      rw [List.getElem?_eq_getElem hib]
      generalize (bs s)[i]=x
      have a1:decide ((x:Int)≥97)=decide (97≤x):=by congr 1; simp; omega
      have a2:decide ((x:Int)≤122)=decide (x≤122):=by congr 1; simp; omega
      have a3:decide ((x:Int)≥48)=decide (48≤x):=by congr 1; simp; omega
      have a4:decide ((x:Int)≤57)=decide (x≤57):=by congr 1; simp; omega
      have a5:((x:Int)==45)=(x==45):=by
        rw [Bool.eq_iff_iff,beq_iff_eq,beq_iff_eq]
        omega
      have a6:((i:Int)==0)=(i==0):=by rw [Bool.eq_iff_iff]; simp
      rw [a1,a2,a3,a4,a5,a6]
      simp only [zPd,zHm,bne]
      cases decide (97≤x) <;> cases decide (x≤122) <;> cases decide (48≤x) <;> cases decide (x≤57) <;> cases x==45 <;> cases i==0 <;> rfl
    · have d0 : decide ((s.size : Int) < (s.size : Int)) = false := by simp
      simp only [d0,cond_false]
    · have e2 : (List.range s.size).any (fun i => match (bs s)[i]? with | some x => !(zPd x || (i != 0 && zHm x)) | none => false) = !((List.range (bs s).length).all fun i => match (bs s)[i]? with | some x => zPd x || (i != 0 && zHm x) | none => true) := by
        rw [←zAk,hl]
        congr 1
        funext i
        cases (bs s)[i]? <;> rfl
      rw [e2]
      unfold lD
      have b1:decide (1≤(bs s).length)=true:=by rw [hl]; simp; omega
      have b2:decide ((bs s).length≤16)=true:=by rw [hl]; simp; omega
      rw [b1,b2]
      cases (List.range (bs s).length).all fun i=>match (bs s)[i]? with | some x=>zPd x||(i != 0&&zHm x) | none=>true <;> rfl
theorem zRi (v:zJ):vG v=some (zBU v):=by
  unfold vG vD zBU
  simp only [bnd_some]
  have h1:∀ x:Int,decide (x<0)=!decide (0≤x):=fun x=>by rw [←decide_not]; congr 1; simp
  have h2:∀ x:Int,decide (x>999)=!decide (x≤999):=fun x=>by rw [←decide_not]; congr 1; simp
  simp only [h1,h2]
  cases decide (0≤v.Major) <;> cases decide (v.Major≤999) <;> cases decide (0≤v.Minor) <;> cases decide (v.Minor≤999) <;> cases decide (0≤v.Patch) <;> cases decide (v.Patch≤999) <;> rfl
def blt (a b:ByteArray):Bool:=Op.bytesLess a.data.toList b.data.toList
theorem zQO (a b:ByteArray):Op.bytesLess a.toList b.toList=blt a b:=by rw [ByteArray.toList_eq,ByteArray.toList_eq]; rfl
def cOk (l:List zM) (i:Nat):Bool:=match l[i]? with
  | some x=>lD x.Name&&zBU x.Version&&(i==0||match l[i - 1]? with | some y=>blt y.Name x.Name | none=>true)
  | none=>true
def tE (l:List zM):Bool:=decide (l.length≤8)&&(List.range l.length).all (cOk l)
theorem zRY (l:List zM):vT l=some (tE l):=by
  unfold vT tE
  by_cases h:8<l.length
  · have d1 : decide ((l.length : Int) > 8) = true := by simp; omega
    have d2:decide (l.length≤8)=false:=by simp; omega
    rw [d1,d2]; rfl
  · have d1 : decide ((l.length : Int) > 8) = false := by simp; omega
    have d2:decide (l.length≤8)=true:=by simp; omega
    rw [d1,d2]
    simp only [cond_false,Bool.true_and]
    refine nC (fun (i:Nat)=>(i:Int)) l.length (fun i=>!cOk l i) (.inl false) (.inr ()) rfl (fun i hi=>?_) ?_ ?_
    · have d0 : decide ((i : Int) < (l.length : Int)) = true := by simp; omega
      simp only [d0,cond_true,yS hi,bnd_some,zIS,zRi,zR hi (by omega),cOk,List.getElem?_eq_getElem hi]
      by_cases h0:i=0
      · subst h0
        have e:decide (((0:Nat):Int)>0)=false:=by simp
        rw [e]
        cases lD l[0].Name <;> cases zBU l[0].Version <;> rfl
      · have e : decide ((i : Int) > 0) = true := by simp; omega
        have e2:(i==0)=false:=by simp [h0]
        have hp:i - 1<l.length:=by omega
        rw [e,e2,zAr (n:=l.length) (by omega) hi (by omega),yS hp,List.getElem?_eq_getElem hp]
        simp only [bnd_some,zCD,Bool.false_or,cond_true]
        simp only [zQO]
        cases lD l[i].Name <;> cases zBU l[i].Version <;> cases blt l[i - 1].Name l[i].Name <;> rfl
    · have d0 : decide ((l.length : Int) < (l.length : Int)) = false := by simp
      simp only [d0,cond_false]
    · rw [zAk]
      cases (List.range l.length).all (cOk l) <;> rfl
def nOk (x:zX):Bool:=lD x.Component&&lD x.On&&!decide (bs x.Component=bs x.On)&&zBU x.From&&zBU x.At
def jC (l:List zX):Bool:=decide (l.length≤16)&&l.all nOk
theorem zSG (l:List zX):rB l=some (jC l):=by
  unfold rB jC
  by_cases h:16<l.length
  · have d1 : decide ((l.length : Int) > 16) = true := by simp; omega
    have d2:decide (l.length≤16)=false:=by simp; omega
    rw [d1,d2]; rfl
  · have d1 : decide ((l.length : Int) > 16) = false := by simp; omega
    have d2:decide (l.length≤16)=true:=by simp; omega
    rw [d1,d2]
    simp only [cond_false,Bool.true_and]
    refine nC (fun (i:Nat)=>(i:Int)) l.length (fun i=>match l[i]? with | some x=>!nOk x | none=>false) (.inl false) (.inr ()) rfl (fun i hi=>?_) ?_ ?_
    · have d0 : decide ((i : Int) < (l.length : Int)) = true := by simp; omega
      simp only [d0,cond_true,yS hi,bnd_some,zIS,zRi,zR hi (by omega),List.getElem?_eq_getElem hi,zBH,nOk]
      generalize l[i]=x
      cases lD x.Component <;> cases lD x.On <;> cases decide (bs x.Component=bs x.On) <;> cases zBU x.From <;> cases zBU x.At <;> rfl
    · have d0 : decide ((l.length : Int) < (l.length : Int)) = false := by simp
      simp only [d0,cond_false]
    · rw [zHf l (fun x => !nOk x) _ (fun i hi => by rw [List.getElem?_eq_getElem hi]), zAk]
      cases l.all nOk <;> rfl
def cA (l:List zM) (name:ByteArray):Option zJ:=(l.find? fun x=>decide (bs x.Name=bs name)).map (·.Version)
def vlt (a b:zJ):Bool:=decide (a.Major<b.Major)||(decide (a.Major=b.Major)&&(decide (a.Minor<b.Minor)||(decide (a.Minor=b.Minor)&&decide (a.Patch<b.Patch))))
def eR (l:List zM) (n:zX):Bool:=match cA l n.Component with
  | none=>true
  | some v=>vlt v n.From||match cA l n.On with | none=>false | some u=>!vlt u n.At
theorem zFd {l:List zM} (hl:l.length≤1000) (name:ByteArray):qH l name=some (match cA l name with | some v=>(v,true) | none=>(⟨0,0,0⟩,false)):=by
  unfold qH
  refine nR (fun (i:Nat)=>(i:Int)) l.length (fun i=>match l[i]? with | some x=>if decide (bs x.Name=bs name)=true then some (.inl (x.Version,true)) else none | none=>none) (.inr ()) rfl (fun i hi=>?_) ?_ ?_
  · have d0 : decide ((i : Int) < (l.length : Int)) = true := by simp; omega
    simp only [d0,cond_true,yS hi,bnd_some,zR hi (by omega),List.getElem?_eq_getElem hi,zBH]
    cases decide (bs l[i].Name=bs name) <;> rfl
  · have d0 : decide ((l.length : Int) < (l.length : Int)) = false := by simp
    simp only [d0,cond_false]
  · rcases zBb l (fun x => decide (bs x.Name = bs name)) (fun _ x => (.inl (x.Version, true) : (zJ × Bool) ⊕ Unit)) (fun i => match l[i]? with | some x => if decide (bs x.Name = bs name) = true then some (.inl (x.Version, true)) else none | none => none) (fun i hi => by rw [List.getElem?_eq_getElem hi]) with ⟨i, hi, h1, h2, h3⟩ | ⟨h1, h2, h3⟩
    · rw [h3]
      simp only [cA,h2]
      rfl
    · rw [h3]
      simp only [cA,h1]
      rfl
theorem zVt (x y:Int):tH x y=some (if x<y then -1 else if y<x then 1 else 0):=by
  unfold tH pH
  simp only [bnd_some,bne_self_eq_false,cond_false]
  by_cases h1:x<y
  · simp [h1]
  · by_cases h2 : y < x
    · simp [h1,h2]
    · simp [h1,h2]
theorem zGc (a b:zJ):∃ r,rK a b=some r∧decide (r<0)=vlt a b:=by
  unfold rK vD pV vlt
  simp only [bnd_some,zVt]
  by_cases h1:a.Major<b.Major
  · exact ⟨-1,by simp [h1],by simp [h1]⟩
  · by_cases h2 : b.Major < a.Major
    · have : ¬ a.Major = b.Major := by omega
      exact ⟨1,by simp [h1,h2],by simp [h1,this]⟩
    · have e : a.Major = b.Major := by omega
      by_cases h3:a.Minor<b.Minor
      · exact ⟨-1,by simp [h1,h2,h3],by simp [e,h3]⟩
      · by_cases h4 : b.Minor < a.Minor
        · have : ¬ a.Minor = b.Minor := by omega
          exact ⟨1,by simp [h1,h2,h3,h4],by simp [e,h3,this]⟩
        · have e2 : a.Minor = b.Minor := by omega
          by_cases h5:a.Patch<b.Patch
          · exact ⟨-1,by simp [h1,h2,h3,h4,h5],by simp [e,e2,h5]⟩
          · by_cases h6 : b.Patch < a.Patch
            · exact ⟨1,by simp [h1,h2,h3,h4,h5,h6],by simp [e,e2,h5]⟩
            · exact ⟨0,by simp [h1,h2,h3,h4,h5,h6],by simp [e,e2,h5]⟩
theorem zSH {l:List zM} (hl:l.length≤1000) (n:zX):pQ l n=some (eR l n):=by
  unfold pQ eR
  rw [zFd hl,zFd hl]
  cases h1:cA l n.Component with
  | none=>rfl
  | some v=>
    obtain ⟨r,e1,e2⟩:=zGc v n.From
    simp only [bnd_some,Bool.not_true,cond_false,e1,e2]
    cases h2:vlt v n.From
    · simp only [cond_false, Bool.false_or]
      cases h3:cA l n.On with
      | none=>rfl
      | some u=>
        obtain ⟨r',e3,e4⟩:=zGc u n.At
        simp only [bnd_some,cond_true,e3]
        have:decide (r'≥0)=!vlt u n.At:=by rw [←e4,←decide_not]; congr 1; simp
        rw [this]
    · rfl
def zIC (l:List zM) (needs:List zX) (r:Int × Int):Prop:=
  if tE l=false then r=(0,1) else if jC needs=false then r=(0,2) else r.2=0∧decide (r.1<0)=needs.all (eR l)
theorem gE (l:List zM) (needs:List zX):∃ r,xO l needs=some r∧zIC l needs r:=by
  unfold xO zIC
  rw [zRY,zSG]
  cases h1:tE l
  · exact ⟨(0,1),rfl,by simp⟩
  simp only [bnd_some,Bool.not_true,cond_false,Bool.true_eq_false,if_false]
  cases h2:jC needs
  · exact ⟨(0,2),rfl,by simp⟩
  simp only [bnd_some,Bool.not_true,cond_false,Bool.true_eq_false,if_false]
  have hl:l.length≤8:=by
    unfold tE at h1
    have:=(Bool.and_eq_true_iff.1 h1).1
    simpa using this
  have hn:needs.length≤16:=by
    unfold jC at h2
    have:=(Bool.and_eq_true_iff.1 h2).1
    simpa using this
  rcases zBb needs (fun x=>!eR l x) (fun i _=>(.inl ((i:Int),0):(Int × Int) ⊕ Unit)) (fun i=>match needs[i]? with | some x=>if (!eR l x)=true then some (.inl ((i:Int),0)) else none | none=>none) (fun i hi=>by rw [List.getElem?_eq_getElem hi]) with ⟨i,hi,g1,g2,g3⟩ | ⟨g1,g2,g3⟩
  · refine ⟨((i : Int), 0), ?_, rfl, ?_⟩
    · refine nR (fun (i : Nat) => (i : Int)) needs.length (fun i => match needs[i]? with | some x => if (!eR l x) = true then some (.inl ((i : Int), 0)) else none | none => none) (.inr ()) rfl (fun i hi => ?_) ?_ ?_
      · have d0 : decide ((i : Int) < (needs.length : Int)) = true := by simp; omega
        simp only [d0,cond_true,yS hi,bnd_some,zR hi (by omega),List.getElem?_eq_getElem hi,zSH (l:=l) (by omega)]
        cases eR l needs[i] <;> rfl
      · have d0 : decide ((needs.length : Int) < (needs.length : Int)) = false := by simp
        simp only [d0,cond_false]
      · rw [g3]; rfl
    · have : needs.all (eR l) = false := by
        cases hc:needs.all (eR l)
        · rfl
        · have := List.all_eq_true.1 hc _ (List.getElem_mem hi)
          rw [this] at g1; cases g1
      rw [this]
      simp
  · refine ⟨(-1, 0), ?_, rfl, ?_⟩
    · refine nR (fun (i : Nat) => (i : Int)) needs.length (fun i => match needs[i]? with | some x => if (!eR l x) = true then some (.inl ((i : Int), 0)) else none | none => none) (.inr ()) rfl (fun i hi => ?_) ?_ ?_
      · have d0 : decide ((i : Int) < (needs.length : Int)) = true := by simp; omega
        simp only [d0,cond_true,yS hi,bnd_some,zR hi (by omega),List.getElem?_eq_getElem hi,zSH (l:=l) (by omega)]
        cases eR l needs[i] <;> rfl
      · have d0 : decide ((needs.length : Int) < (needs.length : Int)) = false := by simp
        simp only [d0,cond_false]
      · rw [g3]; rfl
    · have : needs.all (eR l) = true := List.all_eq_true.2 fun x hx => by simpa using g2 x hx
      rw [this]
      rfl
def wR (l:List zM):List (List Nat):=l.map fun x=>bs x.Name
def sH (p:xB):Nat:=
  if (tE p.Now&&tE p.Next)=false then 1 else if jC p.Needs=false then 2 else if wR p.Now≠wR p.Next then 8 else
    if (p.Needs.all (eR p.Now)&&p.Needs.all (eR p.Next))=false then 42 else 0
theorem zJD:tE []=true:=rfl
theorem zKr:jC []=true:=rfl
theorem zDD {l:List zM} (h:tE l=true):l.length≤8:=by
  unfold tE at h
  have:=(Bool.and_eq_true_iff.1 h).1
  simpa using this
theorem zKJ {a b:List zM} (ha:a.length≤1000):zY a b=some (decide (wR a=wR b)):=by
  unfold zY
  by_cases hl:a.length=b.length
  · have d1 : ((a.length : Int) != (b.length : Int)) = false := by simp [hl]
    rw [d1]
    simp only [cond_false]
    refine nC (fun (i:Nat)=>(i:Int)) a.length (fun i=>match a[i]?,b[i]? with | some x,some y=>!decide (bs x.Name=bs y.Name) | _,_=>false) (.inl false) (.inr ()) rfl (fun i hi=>?_) ?_ ?_
    · have d0 : decide ((i : Int) < (a.length : Int)) = true := by simp; omega
      have hb:i<b.length:=by omega
      simp only [d0,cond_true,yS hi,yS hb,bnd_some,zR hi (by omega),List.getElem?_eq_getElem hi,List.getElem?_eq_getElem hb,rN,zBH]
      cases decide (bs a[i].Name=bs b[i].Name) <;> rfl
    · have d0 : decide ((a.length : Int) < (a.length : Int)) = false := by simp
      simp only [d0,cond_false]
    · have : (List.range a.length).any (fun i => match a[i]?, b[i]? with | some x, some y => !decide (bs x.Name = bs y.Name) | _, _ => false) = !decide (wR a = wR b) := by
        rw [Bool.eq_iff_iff]
        simp only [List.any_eq_true,List.mem_range,Bool.not_eq_true',decide_eq_false_iff_not]
        constructor
        · rintro ⟨i, hi, h⟩ he
          have hb:i<b.length:=by omega
          rw [List.getElem?_eq_getElem hi,List.getElem?_eq_getElem hb] at h
          simp only [Bool.not_eq_true',decide_eq_false_iff_not] at h
          apply h
          have:(wR a)[i]? =(wR b)[i]?:=by rw [he]
          simpa [wR,hi,hb] using this
        · intro h
          refine Classical.byContradiction fun hn=>h ?_
          apply List.ext_getElem?
          intro i
          by_cases hi:i<a.length
          · have hb : i < b.length := by omega
            refine Classical.byContradiction fun hne=>hn ⟨i,hi,?_⟩
            rw [List.getElem?_eq_getElem hi,List.getElem?_eq_getElem hb]
            simp only [Bool.not_eq_true',decide_eq_false_iff_not]
            intro e
            apply hne
            simp [wR,hi,hb,e]
          · rw [List.getElem?_eq_none (by simp [wR]; omega),List.getElem?_eq_none (by simp [wR]; omega)]
      rw [this]
      cases decide (wR a=wR b) <;> rfl
  · have d1 : ((a.length : Int) != (b.length : Int)) = true := by
      rw [bne_iff_ne]; omega
    rw [d1]
    have:decide (wR a=wR b)=false:=by
      simp only [decide_eq_false_iff_not]
      intro h
      have:=congrArg List.length h
      simp [wR] at this
      exact hl this
    rw [this]
    rfl
theorem zLC (p:xB):sM p=some (sH p:Int):=by
  unfold sM sH
  obtain ⟨r1,a1,b1⟩:=gE p.Now []
  obtain ⟨r2,a2,b2⟩:=gE p.Next []
  obtain ⟨r3,a3,b3⟩:=gE [] p.Needs
  obtain ⟨r5,a5,b5⟩:=gE p.Now p.Needs
  obtain ⟨r6,a6,b6⟩:=gE p.Next p.Needs
  simp only [a1,a2,a3,a5,a6,bnd_some]
  unfold zIC at b1 b2 b3 b5 b6
  rw [zKr] at b1 b2
  rw [zJD] at b3
  cases h1:tE p.Now
  · rw [if_pos h1] at b1
    subst b1
    rfl
  rw [if_neg (by rw [h1]; simp)] at b1
  simp only [Bool.true_eq_false,if_false] at b1
  have c1:(r1.2 != 0)=false:=by rw [b1.1]; rfl
  rw [c1]
  cases h2:tE p.Next
  · rw [if_pos h2] at b2
    subst b2
    rfl
  rw [if_neg (by rw [h2]; simp)] at b2
  simp only [Bool.true_eq_false,if_false] at b2
  have c2:(r2.2 != 0)=false:=by rw [b2.1]; rfl
  rw [c2]
  simp only [cond_false,bnd_some,Bool.and_self,Bool.true_eq_false,if_false] at b3 ⊢
  cases h3:jC p.Needs
  · rw [if_pos h3] at b3
    subst b3
    rfl
  rw [if_neg (by rw [h3]; simp)] at b3
  have c3:(r3.2 != 0)=false:=by rw [b3.1]; rfl
  rw [c3]
  simp only [cond_false,Bool.true_eq_false,if_false]
  rw [zKJ (by have:=zDD h1; omega)]
  by_cases h4:wR p.Now=wR p.Next
  · simp only [h4, decide_true, bnd_some, Bool.not_true, cond_false, ne_eq, not_true_eq_false, if_false]
    rw [if_neg (by rw [h1]; simp),if_neg (by rw [h3]; simp)] at b5
    rw [if_neg (by rw [h2]; simp),if_neg (by rw [h3]; simp)] at b6
    have e5:decide (r5.1≥0)=!p.Needs.all (eR p.Now):=by rw [←b5.2,←decide_not]; congr 1; simp
    have e6:decide (r6.1≥0)=!p.Needs.all (eR p.Next):=by rw [←b6.2,←decide_not]; congr 1; simp
    rw [e5,e6]
    cases p.Needs.all (eR p.Now) <;> cases p.Needs.all (eR p.Next) <;> rfl
  · simp only [h4, decide_false, bnd_some, Bool.not_false, cond_true, ne_eq, not_false_eq_true, if_true]
    rfl
structure iI (p:xB):Prop where
  now:tE p.Now=true
  next:tE p.Next=true
  needs:jC p.Needs=true
  names:wR p.Now=wR p.Next
  met0:p.Needs.all (eR p.Now)=true
  met1:p.Needs.all (eR p.Next)=true
theorem zLU {p:xB}:sH p=0↔iI p:=by
  unfold sH
  constructor
  · intro h
    split at h
    · cases h
    · rename_i h1
      split at h
      · cases h
      · rename_i h2
        split at h
        · cases h
        · rename_i h3
          split at h
          · cases h
          · rename_i h4
            simp only [Bool.and_eq_false_iff,not_or,Bool.not_eq_false] at h1 h4
            exact ⟨h1.1,h1.2,by simpa using h2,Classical.not_not.1 h3,h4.1,h4.2⟩
  · intro h
    rw [if_neg (by rw [h.now,h.next]; simp),if_neg (by rw [h.needs]; simp),if_neg (by simp [h.names]),if_neg (by rw [h.met0,h.met1]; simp)]
theorem iI.len {p:xB} (h:iI p):p.Next.length=p.Now.length:=by
  have:=congrArg List.length h.names
  simpa [wR] using this.symm
theorem iI.le8 {p:xB} (h:iI p):p.Now.length≤8:=zDD h.now
end Go.Proofs.YtplchdlgdjcojaaGreatDoor
end
section
namespace Go.Proofs.YtplchdlgdjcojaaGreatDoor
open Go
set_option linter.unusedSimpArgs false
set_option linter.unusedVariables false
def zBR (n:Nat) (f:Nat→Bool):Nat:=(List.range n).foldl (fun s i=>if f i=true then s|||2 ^ i else s) 0
theorem zAn (n:Nat) (f:Nat→Bool):zBR (n+1) f=if f n=true then zBR n f|||2 ^ n else zBR n f:=by
  simp [zBR,List.range_succ]
theorem zJd (n:Nat) (f:Nat→Bool):zBR n f<2 ^ n:=by
  induction n with
  | zero=>simp [zBR]
  | succ n ih=>
    rw [zAn]
    have h1:zBR n f<2 ^ (n+1):=Nat.lt_trans ih (Nat.pow_lt_pow_right (by omega) (by omega))
    have h2:2 ^ n<2 ^ (n+1):=Nat.pow_lt_pow_right (by omega) (by omega)
    split
    · exact Nat.or_lt_two_pow h1 h2
    · exact h1
theorem zLA (n:Nat) (f:Nat→Bool) (i:Nat):(zBR n f).testBit i=(decide (i<n)&&f i):=by
  induction n with
  | zero=>simp [zBR]
  | succ n ih=>
    rw [zAn]
    by_cases hi:i=n
    · subst hi
      cases h:f i
      · simp [ih]
      · simp [Nat.testBit_or,ih]
    · have e : decide (i < n + 1) = decide (i < n) := by
        congr 1
        simp only [eq_iff_iff]
        omega
      split
      · rw [Nat.testBit_or, ih, Nat.testBit_two_pow_of_ne (fun h => hi h.symm), e]
        simp
      · rw [ih,e]
theorem zIq (a i:Nat):(a / 2 ^ i)&&&1=if a.testBit i=true then 1 else 0:=by
  rw [Nat.and_one_is_mod,Nat.testBit_eq_decide_div_mod_eq]
  by_cases h:a / 2 ^ i % 2=1
  · simp [h]
  · simp [h]; omega
theorem zNq (a i:Nat):(((((a / 2 ^ i)&&&1:Nat)):Int)==1)=a.testBit i:=by
  rw [zIq]
  cases a.testBit i <;> rfl
theorem zTS (a i:Nat):(((((a / 2 ^ i)&&&1:Nat)):Int)==0)=!a.testBit i:=by
  rw [zIq]
  cases a.testBit i <;> rfl
theorem zTP (a i:Nat):((((a|||2 ^ i:Nat)):Int)==(a:Int))=a.testBit i:=by
  cases h:a.testBit i
  · rw [beq_eq_false_iff_ne]
    intro e
    have:a|||2 ^ i=a:=by exact_mod_cast e
    have h2:(a|||2 ^ i).testBit i=true:=by simp [Nat.testBit_or]
    rw [this,h] at h2
    cases h2
  · rw [beq_iff_eq]
    congr 1
    apply Nat.eq_of_testBit_eq
    intro j
    rw [Nat.testBit_or]
    by_cases hj:i=j
    · subst hj; simp [h]
    · simp [Nat.testBit_two_pow_of_ne hj]
def cF (S F:Nat):Prop:=∀ i,S.testBit i=true→F.testBit i=true
theorem cF.le {S F:Nat} (h:cF S F):S≤F:=by
  have:S|||F=F:=by
    apply Nat.eq_of_testBit_eq
    intro i
    rw [Nat.testBit_or]
    cases hs:S.testBit i
    · simp
    · simp [h i hs]
  rw [←this]
  exact Nat.left_le_or
theorem cF.zero (F:Nat):cF 0 F:=fun i h=>by simp at h
theorem cF.refl (F:Nat):cF F F:=fun i h=>h
theorem cF.or {S F i:Nat} (h:cF S F) (hi:F.testBit i=true):cF (S|||2 ^ i) F:=fun j hj=>by
  rw [Nat.testBit_or] at hj
  by_cases hji:i=j
  · subst hji; exact hi
  · rw [Nat.testBit_two_pow_of_ne hji] at hj
    exact h j (by simpa using hj)
theorem zJo (S i j:Nat):(S|||2 ^ i).testBit j=(S.testBit j||decide (i=j)):=by
  rw [Nat.testBit_or]
  by_cases h:i=j
  · subst h; simp
  · simp [Nat.testBit_two_pow_of_ne h,h]
theorem zNW {S i:Nat} (h:S.testBit i=false):S<S|||2 ^ i:=by
  rcases Nat.lt_or_ge S (S|||2 ^ i) with g | g
  · exact g
  · have e : S ||| 2 ^ i = S := Nat.le_antisymm g Nat.left_le_or
    have:=zJo S i i
    rw [e,h] at this
    simp at this
def gN (p:xB) (i:Nat):Bool:=match p.Now[i]?,p.Next[i]? with
  | some x1,some x2=>!((x1.Version.Major==x2.Version.Major)&&((x1.Version.Minor==x2.Version.Minor)&&((x1.Version.Patch==x2.Version.Patch)&&true)))
  | _,_=>false
def yQ (p:xB):Nat:=zBR p.Now.length (gN p)
theorem zVr {i:Nat} (h:i<8):2 ^ i<256:=Nat.pow_lt_pow_right (a:=2) (n:=8) (by omega) h
theorem zWR {i:Nat} (h:i<8):zBS .i64 1 (i:Int)=some ((2 ^ i:Nat):Int):=by
  have:=zQF (a:=1) (s:=i) (by omega) (by rw [Nat.one_mul]; have:=zVr h; omega)
  rw [Nat.one_mul] at this
  exact this
theorem zWH {a i:Nat} (h:i≤64):zFS .i64 (a:Int) (i:Int)=some ((a / 2 ^ i:Nat):Int):=zPL h
theorem or1 {a i:Nat} (ha:a<256) (h:i<8):iOr .i64 (a:Int) ((2 ^ i:Nat):Int)=((a|||2 ^ i:Nat):Int):=zBI (a:=a) (b:=2 ^ i) (by omega) (by have:=zVr h; omega)
theorem zVx {a:Nat} (h:a<4611686018427387904):rP .i64 (a:Int) 1=((a&&&1:Nat):Int):=zQc (b:=1) h (by omega)
theorem zXi {a i:Nat} (ha:a<256) (h:i<8):a|||2 ^ i<256:=Nat.or_lt_two_pow (n:=8) ha (zVr h)
theorem zAv {n:Nat} {f:Nat→Bool} (h:n≤8):zBR n f<256:=Nat.lt_of_lt_of_le (zJd n f) (Nat.pow_le_pow_right (by omega) h)
theorem zRL {p:xB} (h:p.Now.length≤8) (hl:p.Next.length=p.Now.length):qG p=some (yQ p:Int):=by
  unfold qG yQ
  refine xW (fun (i:Nat)=>(((zBR i (gN p):Nat):Int),(i:Int))) p.Now.length _ rfl (fun i hi=>?_) ?_ rfl
  · have d0 : decide ((i : Int) < (p.Now.length : Int)) = true := by simp; omega
    have hb:i<p.Next.length:=by omega
    simp only [d0,cond_true,yS hi,yS hb,bnd_some,zR hi (by omega),zWR (i:=i) (by omega),or1 (a:=zBR i (gN p)) (zAv (by omega)) (i:=i) (by omega)]
    rw [zAn]
    have e:gN p i=!((p.Now[i].Version.Major==p.Next[i].Version.Major)&&((p.Now[i].Version.Minor==p.Next[i].Version.Minor)&&((p.Now[i].Version.Patch==p.Next[i].Version.Patch)&&true))):=by
      unfold gN
      rw [List.getElem?_eq_getElem hi,List.getElem?_eq_getElem hb]
    rw [←e]
    cases gN p i <;> rfl
  · have d0 : decide ((p.Now.length : Int) < (p.Now.length : Int)) = false := by simp
    simp only [d0,cond_false]
def stU (p:xB) (S i:Nat):List zM:=p.Now.mapIdx fun j a=>if (decide (j<i)&&S.testBit j)=true then (p.Next[j]?).getD a else a
def lG (p:xB) (S:Nat):List zM:=stU p S p.Now.length
@[simp] theorem stU_len (p:xB) (S i:Nat):(stU p S i).length=p.Now.length:=by simp [stU]
theorem zBM {p:xB} (hl:p.Next.length=p.Now.length) {S i j:Nat} (hj:j<p.Now.length):(stU p S i)[j]'(by simpa using hj)=if (decide (j<i)&&S.testBit j)=true then p.Next[j] else p.Now[j]:=by
  simp only [stU,List.getElem_mapIdx]
  have:j<p.Next.length:=by omega
  rw [List.getElem?_eq_getElem this]
  rfl
theorem zSh (p:xB) (S:Nat):stU p S 0=p.Now:=by
  apply List.ext_getElem (by simp)
  intro j h1 h2
  simp [stU]
theorem zPO {p:xB} (hl:p.Next.length=p.Now.length) {S i:Nat} (hi:i<p.Now.length):stU p S (i+1)=if S.testBit i=true then (stU p S i).set i p.Next[i] else stU p S i:=by
  split
  · rename_i hb
    apply List.ext_getElem (by simp)
    intro j h1 h2
    have hj:j<p.Now.length:=by simpa using h1
    rw [zBM hl hj]
    by_cases hji:j=i
    · subst hji
      simp [hb]
    · rw [List.getElem_set_ne (fun h => hji h.symm), zBM hl hj]
      have:decide (j<i+1)=decide (j<i):=by
        congr 1
        simp only [eq_iff_iff]
        omega
      rw [this]
  · rename_i hb
    apply List.ext_getElem (by simp)
    intro j h1 h2
    have hj:j<p.Now.length:=by simpa using h1
    rw [zBM hl hj,zBM hl hj]
    by_cases hji:j=i
    · subst hji
      simp [hb]
    · have : decide (j < i + 1) = decide (j < i) := by
        congr 1
        simp only [eq_iff_iff]
        omega
      rw [this]
theorem zWv {α:Type} {xs:List α} {i:Nat} {y:α} (h:i<xs.length):sV xs (i:Int) y=some (xs.set i y):=by
  unfold sV
  rw [if_pos ⟨by omega,by omega⟩]
  simp
theorem zRe {p:xB} (h:p.Now.length≤8) (hl:p.Next.length=p.Now.length) {S:Nat} (hS:S<256):qU p (S:Int)=some (lG p S):=by
  unfold qU xG
  rw [uW (by simp; omega) (by simp; omega)]
  simp only [List.nil_append,bnd_some]
  refine xW (fun (i:Nat)=>((i:Int),stU p S i)) p.Now.length _ (by rw [zSh]; rfl) (fun i hi=>?_) ?_ rfl
  · have d0 : decide ((i : Int) < (p.Now.length : Int)) = true := by simp; omega
    have hb:i<p.Next.length:=by omega
    have hst:i<(stU p S i).length:=by simpa using hi
    have hd:S / 2 ^ i<4611686018427387904:=Nat.lt_of_le_of_lt (Nat.div_le_self _ _) (by omega)
    simp only [d0,cond_true,zWH (a:=S) (i:=i) (by omega),bnd_some,zVx hd,zNq,yS hb,yS hst,zWv hst,zR hi (by omega),zPO hl hi]
    cases S.testBit i <;> rfl
  · have d0 : decide ((p.Now.length : Int) < (p.Now.length : Int)) = false := by simp
    simp only [d0,cond_false,lG]
theorem iI.name {p:xB} (h:iI p) {i:Nat} (hi:i<p.Now.length):(p.Next[i]'(by rw [h.len]; exact hi)).Name=p.Now[i].Name:=by
  have h2:i<p.Next.length:=by rw [h.len]; exact hi
  have:(wR p.Now)[i]? =(wR p.Next)[i]?:=by rw [h.names]
  simp [wR,hi,h2] at this
  exact (zSg this).symm
theorem zFg {l:List zM} (h:tE l=true) {i:Nat} (hi:i<l.length):cOk l i=true:=by
  unfold tE at h
  exact List.all_eq_true.1 (Bool.and_eq_true_iff.1 h).2 i (by simpa using hi)
theorem zFe {p:xB} (h:iI p) {S i:Nat} (hi:i<p.Now.length):(lG p S)[i]'(by simpa [lG] using hi)=if S.testBit i=true then p.Next[i]'(by rw [h.len]; exact hi) else p.Now[i]:=by
  unfold lG
  rw [zBM h.len hi]
  simp [hi]
theorem zDI {p:xB} (h:iI p) {S i:Nat} (hi:i<p.Now.length):((lG p S)[i]'(by simpa [lG] using hi)).Name=p.Now[i].Name:=by
  rw [zFe h hi]
  split
  · exact h.name hi
  · rfl
theorem zKt {p:xB} (h:iI p) (S:Nat):tE (lG p S)=true:=by
  unfold tE
  have hlen:(lG p S).length=p.Now.length:=by simp [lG]
  rw [hlen]
  refine Bool.and_eq_true_iff.2 ⟨by simpa using h.le8,List.all_eq_true.2 fun i hi=>?_⟩
  have hi:i<p.Now.length:=by simpa using hi
  have h1:=zFg h.now hi
  have h2:=zFg h.next (i:=i) (by rw [h.len]; exact hi)
  have hs:i<(lG p S).length:=by rw [hlen]; exact hi
  have hn:i<p.Next.length:=by rw [h.len]; exact hi
  unfold cOk at h1 h2 ⊢
  rw [List.getElem?_eq_getElem hs]
  rw [List.getElem?_eq_getElem hi] at h1
  rw [List.getElem?_eq_getElem hn] at h2
  simp only [zDI h hi,Bool.and_eq_true] at h1 h2 ⊢
  refine ⟨⟨h1.1.1,?_⟩,?_⟩
  · rw [zFe h hi]
    split
    · exact h2.1.2
    · exact h1.1.2
  · have h3 := h1.2
    by_cases h0:i=0
    · simp [h0]
    · have hp : i - 1 < p.Now.length := by omega
      have hps:i - 1<(lG p S).length:=by omega
      rw [List.getElem?_eq_getElem hp] at h3
      rw [List.getElem?_eq_getElem hps]
      simp only [zDI h hp]
      exact h3
def qF (p:xB) (S:Nat):Bool:=p.Needs.all (eR (lG p S))
theorem zTE {p:xB} (h:iI p) {S:Nat} (hS:S<256):tG p (S:Int)=some (qF p S):=by
  unfold tG
  obtain ⟨r,a,b⟩:=gE (lG p S) p.Needs
  rw [zRe h.le8 h.len hS]
  simp only [bnd_some,a]
  unfold zIC at b
  rw [if_neg (by rw [zKt h]; simp),if_neg (by rw [h.needs]; simp)] at b
  have e:(r.2==0)=true:=by rw [b.1]; rfl
  rw [e]
  simp only [cond_true,bnd_some,b.2]
  rfl
theorem zEQ {p:xB} (i:Nat):(yQ p).testBit i=(decide (i<p.Now.length)&&gN p i):=zLA _ _ _
section
variable (n F:Nat) (G:Nat→Bool)
def iM (S i:Nat):Bool:=F.testBit i&&(!S.testBit i&&G (S|||2 ^ i))
def zBg:Nat→Nat→Option (List Nat)
  | 0,_=>none
  | k+1,S=>if S=F then some [] else (List.range n).findSome? fun i=>if iM F G S i=true then (zBg k (S|||2 ^ i)).map (i:: ·) else none
def lst (S:Nat):Option (List Nat):=zBg n F G (F - S+1) S
def dZ:Nat→List Nat→Prop
  | S, []=>S=F
  | S,i::l=>iM F G S i=true∧dZ (S|||2 ^ i) l
theorem zJX {α β:Type} {l:List α} {f g:α→Option β} (h:∀ x∈l,f x=g x):l.findSome? f=l.findSome? g:=by
  induction l with
  | nil=>rfl
  | cons x r ih=>
    rw [List.findSome?_cons,List.findSome?_cons,h x (by simp),ih fun y hy=>h y (by simp [hy])]
theorem kQ {F:Nat} {G:Nat→Bool} {S i:Nat} (h:iM F G S i=true):F.testBit i=true∧S.testBit i=false∧G (S|||2 ^ i)=true:=by
  unfold iM at h
  simpa using h
theorem zGM (k k' S:Nat) (hs:cF S F) (h1:F - S<k) (h2:F - S<k'):zBg n F G k S=zBg n F G k' S:=by
  induction k generalizing k' S with
  | zero=>omega
  | succ k ih=>
    cases k' with
    | zero=>omega
    | succ k'=>
      unfold zBg
      by_cases he:S=F
      · rw [if_pos he,if_pos he]
      · rw [if_neg he, if_neg he]
        refine zJX fun i _=>?_
        by_cases hst:iM F G S i=true
        · rw [if_pos hst, if_pos hst]
          obtain ⟨a,b,_⟩:=kQ hst
          have h3:=zNW b
          have h4:=(hs.or a).le
          rw [ih k' (S|||2 ^ i) (hs.or a) (by omega) (by omega)]
        · rw [if_neg hst,if_neg hst]
theorem zED {S:Nat} (hs:cF S F) (hne:S≠F):lst n F G S=(List.range n).findSome? fun i=>if iM F G S i=true then (lst n F G (S|||2 ^ i)).map (i:: ·) else none:=by
  have hle:=hs.le
  unfold lst
  conv=>lhs; unfold zBg
  rw [if_neg hne]
  refine zJX fun i _=>?_
  by_cases hst:iM F G S i=true
  · rw [if_pos hst, if_pos hst]
    obtain ⟨a,b,_⟩:=kQ hst
    have h3:=zNW b
    have h4:=(hs.or a).le
    rw [zGM n F G _ (F - (S|||2 ^ i)+1) _ (hs.or a) (by omega) (by omega)]
  · rw [if_neg hst,if_neg hst]
theorem zGt:lst n F G F=some []:=by
  unfold lst zBg
  rw [if_pos rfl]
theorem zKg {β:Type} {f:Nat→Option β} {m i:Nat} {v:β} (hi:i<m) (h:f i=some v) (hn:∀ j,j<i→f j=none):(List.range m).findSome? f=some v:=by
  induction m with
  | zero=>omega
  | succ m ih=>
    rw [List.range_succ,List.findSome?_append]
    by_cases hm:i=m
    · subst hm
      have:(List.range i).findSome? f=none:=List.findSome?_eq_none_iff.2 fun x hx=>hn x (by simpa using hx)
      rw [this]
      simp [h]
    · rw [ih (by omega)]
      rfl
theorem zNg {β:Type} {f:Nat→Option β} {m:Nat} (hn:∀ j,j<m→f j=none):(List.range m).findSome? f=none:=
  List.findSome?_eq_none_iff.2 fun x hx=>hn x (by simpa using hx)
theorem zSU {β:Type} {f:Nat→Option β} {m:Nat} {v:β} (h:(List.range m).findSome? f=some v):∃ i,i<m∧f i=some v∧∀ j,j<i→f j=none:=by
  induction m with
  | zero=>simp at h
  | succ m ih=>
    rw [List.range_succ,List.findSome?_append] at h
    cases h1:(List.range m).findSome? f with
    | some u=>
      rw [h1] at h
      simp at h
      subst h
      obtain ⟨i,a,b,c⟩:=ih h1
      exact ⟨i,by omega,b,c⟩
    | none=>
      rw [h1] at h
      simp at h
      exact ⟨m,by omega,h,fun j hj=>List.findSome?_eq_none_iff.1 h1 j (by simpa using hj)⟩
theorem zLx (P:Nat→Prop) (h:∀ S,cF S F→(∀ i,iM F G S i=true→P (S|||2 ^ i))→P S):∀ S,cF S F→P S:=by
  have:∀ k S,F - S<k→cF S F→P S:=by
    intro k
    induction k with
    | zero=>intro S h1; omega
    | succ k ih=>
      intro S h1 hs
      refine h S hs fun i hst=>?_
      obtain ⟨a,b,_⟩:=kQ hst
      have h3:=zNW b
      have h4:=(hs.or a).le
      exact ih _ (by omega) (hs.or a)
  exact fun S hs=>this (F - S+1) S (by omega) hs
theorem zMa (S:Nat) (hs:cF S F):∀ l,lst n F G S=some l→dZ F G S l:=by
  refine zLx F G (fun S=>∀ l,lst n F G S=some l→dZ F G S l) (fun S hs ih l hl=>?_) S hs
  by_cases he:S=F
  · subst he
    rw [zGt] at hl
    injection hl with hl
    subst hl
    rfl
  · rw [zED n F G hs he] at hl
    obtain ⟨i,_,h1,_⟩:=zSU hl
    split at h1
    · rename_i hst
      rw [Option.map_eq_some_iff] at h1
      obtain ⟨r,h2,rfl⟩:=h1
      exact ⟨hst,ih i hst r h2⟩
    · cases h1
theorem zUQ {F n i:Nat} (hF:F<2 ^ n) (h:F.testBit i=true):i<n:=by
  rcases Nat.lt_or_ge i n with g | g
  · exact g
  · have := Nat.testBit_lt_two_pow (Nat.lt_of_lt_of_le hF (Nat.pow_le_pow_right (by omega) g))
    rw [this] at h; cases h
end
theorem zOA (k:IntKind) (a b:Int):(yC k).eq a b=true↔a=b:=by
  show (a==b)=true↔a=b
  exact beq_iff_eq
def aV (n F:Nat) (G:Nat→Bool) (d:List (Int × Bool)):Prop:=∀ T:Nat,cF T F→(vI (yC .i64).eq d (T:Int)).getD false=true→lst n F G T=none
theorem zNM {p:xB} (h:iI p):∀ (fuel S:Nat) (d:List (Int × Bool)) (o:List Int),cF S (yQ p)→yQ p - S<fuel→o.length+(yQ p - S)≤300→aV p.Now.length (yQ p) (qF p) d→
    ∃ d',aV p.Now.length (yQ p) (qF p) d'∧bW (yQ p:Int) p fuel d (S:Int) o=some (d',match lst p.Now.length (yQ p) (qF p) S with | some l=>(o++iz l,true) | none=>([],false))
  | 0,S,d,o,_,hf,_,_=>by omega
  | fuel+1,S,d,o,hs,hf,ho,hd=>by
    have hF:yQ p<256:=zAv h.le8
    have hle:=hs.le
    show ∃ d',_∧gM (yQ p:Int) p (bW (yQ p:Int) p fuel) d (S:Int) o=_
    unfold gM
    by_cases he:S=yQ p
    · subst he
      have e:((yQ p:Int)==(yQ p:Int))=true:=by simp
      rw [e,zGt]
      exact ⟨d,hd,by simp⟩
    · have e : ((S : Int) == (yQ p : Int)) = false := by
        rw [beq_eq_false_iff_ne]; exact_mod_cast he
      rw [e]
      simp only [cond_false]
      have hstep:=zED p.Now.length (yQ p) (qF p) hs he
      have key:∃ r,bnd (yD (τ:=(List (Int × Bool) × (List Int × Bool)) ⊕ (List (Int × Bool))) (fun (s1:Int × (List (Int × Bool)))=>bif decide (s1.1<(p.Now.length:Int)) then
          bnd (zBS .i64 1 s1.1) fun q1=>bnd (zFS .i64 (yQ p:Int) s1.1) fun q2=>
          bif ((rP .i64 q2 1)==0) then some (.next (IntKind.wrap .i64 (s1.1+1),s1.2)) else
          bif ((iOr .i64 (S:Int) q1)==(S:Int)) then some (.next (IntKind.wrap .i64 (s1.1+1),s1.2)) else
          bif (vI (yC .i64).eq s1.2 (iOr .i64 (S:Int) q1)).getD false then some (.next (IntKind.wrap .i64 (s1.1+1),s1.2)) else
          bnd (tG p (iOr .i64 (S:Int) q1)) fun r1=>bif !r1 then some (.next (IntKind.wrap .i64 (s1.1+1),s1.2)) else
          bnd (app 8 o [s1.1]) fun l1=>bnd (bW (yQ p:Int) p fuel s1.2 (iOr .i64 (S:Int) q1) l1) fun r2=>
          bif r2.2.2 then some (.done (.inl (r2.1,r2.2.1,true))) else some (.next (IntKind.wrap .i64 (s1.1+1),r2.1))
          else some (.done (.inr s1.2))) (0,d)) (fun o2=>wP o2 fun o3=>some (oV (yC .i64).eq o3 (S:Int) true, [],false))=some r∧
          (aV p.Now.length (yQ p) (qF p) r.1∧r.2=match lst p.Now.length (yQ p) (qF p) S with | some l=>(o++iz l,true) | none=>([],false)):=by
        refine cZ (fun s=>∃ i:Nat,i≤p.Now.length∧s.1=(i:Int)∧aV p.Now.length (yQ p) (qF p) s.2∧∀ j,j<i→(if iM (yQ p) (qF p) S j=true then (lst p.Now.length (yQ p) (qF p) (S|||2 ^ j)).map (j:: ·) else none)=none)
          (fun s=>p.Now.length - s.1.toNat)
          (fun t=>match t with
            | .inl r=>aV p.Now.length (yQ p) (qF p) r.1∧∃ l,lst p.Now.length (yQ p) (qF p) S=some l∧r.2=(o++iz l,true)
            | .inr d'=>aV p.Now.length (yQ p) (qF p) d'∧lst p.Now.length (yQ p) (qF p) S=none) ⟨0,by omega,rfl,hd,fun j hj=>by omega⟩ (fun s hI=>?_) (fun t ht=>?_)
        · obtain ⟨i, hi, h1, h2, h3⟩ := hI
          obtain ⟨s1,s2⟩:=s
          simp only at h1 h2
          subst h1
          by_cases hin:i<p.Now.length
          · have hi8 : i < 8 := by have := h.le8; omega
            have d0:decide ((i:Int)<(p.Now.length:Int))=true:=by simp; omega
            have hdv:yQ p / 2 ^ i<4611686018427387904:=Nat.lt_of_le_of_lt (Nat.div_le_self _ _) (by omega)
            have hS:S<256:=by omega
            have hw:=zR hin (by have:=h.le8; omega)
            have hnext:∀ d',aV p.Now.length (yQ p) (qF p) d'→(if iM (yQ p) (qF p) S i=true then (lst p.Now.length (yQ p) (qF p) (S|||2 ^ i)).map (i:: ·) else none)=none→
                ∃ i':Nat,i'≤p.Now.length∧(((i+1:Nat):Int),d').1=(i':Int)∧aV p.Now.length (yQ p) (qF p) (((i+1:Nat):Int),d').2∧∀ j,j<i'→(if iM (yQ p) (qF p) S j=true then (lst p.Now.length (yQ p) (qF p) (S|||2 ^ j)).map (j:: ·) else none)=none:=
              fun d' hd' hno=>⟨i+1,by omega,rfl,hd',fun j hj=>by
                by_cases hji:j=i
                · subst hji; exact hno
                · exact h3 j (by omega)⟩
            have hmu:∀ d':List (Int × Bool),p.Now.length - (((i+1:Nat):Int),d').1.toNat<p.Now.length - ((i:Int),s2).1.toNat:=fun d'=>by
              show p.Now.length - ((i+1:Nat):Int).toNat<p.Now.length - ((i:Nat):Int).toNat
              omega
            simp only [d0,cond_true,zWR hi8,zWH (a:=yQ p) (i:=i) (by omega),bnd_some,zVx hdv,zTS,or1 hS hi8,zTP,hw]
            cases hb1:(yQ p).testBit i
            · refine .inl ⟨_, rfl, hnext s2 h2 ?_, hmu s2⟩
              rw [if_neg]
              unfold iM
              simp [hb1]
            cases hb2:S.testBit i
            · simp only [Bool.not_true, cond_false]
              have hor:=zXi hS hi8
              have hsub:=hs.or hb1
              cases hb3:(vI (yC .i64).eq s2 (((S|||2 ^ i:Nat)):Int)).getD false
              · simp only [cond_false, zTE h hor, bnd_some]
                cases hb4:qF p (S|||2 ^ i)
                · refine .inl ⟨_, rfl, hnext s2 h2 ?_, hmu s2⟩
                  rw [if_neg]
                  unfold iM
                  simp [hb4]
                · simp only [Bool.not_true, cond_false]
                  have hlt:=zNW hb2
                  have hle2:=hsub.le
                  have hst:iM (yQ p) (qF p) S i=true:=by unfold iM; simp [hb1,hb2,hb4]
                  rw [uW (by simp; omega) (by simp; omega)]
                  simp only [bnd_some]
                  obtain ⟨d',hd',hm⟩:=zNM h fuel (S|||2 ^ i) s2 (o++ [(i:Int)]) hsub (by omega) (by simp; omega) h2
                  rw [hm]
                  simp only [bnd_some]
                  cases hl:lst p.Now.length (yQ p) (qF p) (S|||2 ^ i) with
                  | none=>
                    refine .inl ⟨_,rfl,hnext d' hd' ?_,hmu d'⟩
                    rw [if_pos hst,hl]
                    rfl
                  | some l=>
                    refine .inr ⟨_,rfl,hd',i::l,?_,?_⟩
                    · rw [hstep]
                      refine zKg hin ?_ h3
                      rw [if_pos hst,hl]
                      rfl
                    · simp [iz]
              · refine .inl ⟨_, rfl, hnext s2 h2 ?_, hmu s2⟩
                have:=h2 _ hsub hb3
                rw [this]
                simp
            · refine .inl ⟨_, rfl, hnext s2 h2 ?_, hmu s2⟩
              rw [if_neg]
              unfold iM
              simp [hb2]
          · have d0 : decide ((i : Int) < (p.Now.length : Int)) = false := by simp; omega
            rw [d0]
            refine .inr ⟨_,rfl,h2,?_⟩
            rw [hstep]
            exact zNg fun j hj=>h3 j (by omega)
        · rcases t with r | d'
          · obtain ⟨h1, l, h2, h3⟩ := ht
            refine ⟨r,rfl,h1,?_⟩
            rw [h2,h3]
          · obtain ⟨h1, h2⟩ := ht
            refine ⟨_,rfl,?_,by rw [h2]⟩
            intro T hT hg
            rw [zDd (zOA .i64)] at hg
            by_cases hTS:(T:Int)=(S:Int)
            · have : T = S := by exact_mod_cast hTS
              subst this
              exact h2
            · rw [if_neg hTS] at hg
              exact h1 T hT hg
      obtain ⟨r,k1,k2,k3⟩:=key
      refine ⟨r.1,k2,?_⟩
      rw [k1,←k3]
def gU (p:xB):Option (List Nat):=lst p.Now.length (yQ p) (qF p) 0
theorem zLa (p:xB):uQ p=some (if sH p=0 then (match gU p with | some l=>(iz l,0) | none=>([],41)) else ([],(sH p:Int))):=by
  unfold uQ
  rw [zLC]
  simp only [bnd_some]
  by_cases hv:sH p=0
  · have h := zLU.1 hv
    have e:((sH p:Int) != 0)=false:=by rw [hv]; rfl
    rw [e,if_pos hv,zRL h.le8 h.len]
    simp only [cond_false,bnd_some]
    have hF:yQ p<256:=zAv h.le8
    obtain ⟨d',_,hm⟩:=zNM h aU 0 [] [] (cF.zero _) (by unfold aU; omega) (by simp; omega) (fun T _ hg=>by simp [vI] at hg)
    have hm':bW (yQ p:Int) p aU [] 0 []=_:=hm
    rw [hm']
    simp only [bnd_some]
    unfold gU
    cases lst p.Now.length (yQ p) (qF p) 0 <;> simp
  · have e : ((sH p : Int) != 0) = true := by
      rw [bne_iff_ne]; exact_mod_cast hv
    rw [e,if_neg hv]
    rfl
end Go.Proofs.YtplchdlgdjcojaaGreatDoor
end
section
namespace Go.Proofs.YtplchdlgdjcojaaGreatDoor
open Go
set_option linter.unusedSimpArgs false
set_option linter.unusedVariables false
def zUG:zJ:=⟨1,0,0⟩
def fX:zJ:=⟨2,0,0⟩
def exA:ByteArray:=⟨#[97]⟩
def exB:ByteArray:=⟨#[98]⟩
def exP (needs:List zX):xB:=⟨[⟨exA,zUG⟩,⟨exB,zUG⟩], [⟨exA,fX⟩,⟨exB,fX⟩],needs⟩
set_option maxRecDepth 20000 in
theorem ex1:sH (exP [⟨exA,fX,exB,fX⟩])=0∧gU (exP [⟨exA,fX,exB,fX⟩])=some [1,0]:=by decide
set_option maxRecDepth 20000 in
theorem ex2:sH (exP [⟨exA,fX,exB,fX⟩,⟨exB,fX,exA,fX⟩])=0∧gU (exP [⟨exA,fX,exB,fX⟩,⟨exB,fX,exA,fX⟩])=none:=by decide
def xU (n F:Nat):List Nat:=(List.range n).filter F.testBit
theorem zJp {F i:Nat} (hF:F<2 ^ i):∀ d,xU (i+d) F=xU i F
  | 0=>rfl
  | d+1=>by
    have ih:=zJp hF d
    unfold xU at*
    rw [show i+(d+1)=(i+d)+1 by omega,List.range_succ,List.filter_append,ih]
    have:F.testBit (i+d)=false:=Nat.testBit_lt_two_pow (Nat.lt_of_lt_of_le hF (Nat.pow_le_pow_right (by omega) (by omega)))
    simp [this]
theorem zTB {F i n:Nat} (hi:F<2 ^ i) (hn:F<2 ^ n):xU i F=xU n F:=by
  rcases Nat.le_total i n with g | g
  · rw [show n=i+(n - i) by omega,zJp hi]
  · rw [show i=n+(i - n) by omega,zJp hn]
theorem gB (F i:Nat):xU (i+1) F=if F.testBit i=true then xU i F++ [i] else xU i F:=by
  unfold xU
  rw [List.range_succ,List.filter_append]
  cases h:F.testBit i <;> simp [h]
theorem zRq (p:xB):pA p=some (if sH p=0 then iz (xU p.Now.length (yQ p)) else []):=by
  unfold pA
  rw [zLC]
  simp only [bnd_some]
  by_cases hv:sH p=0
  · have h := zLU.1 hv
    have e:((sH p:Int) != 0)=false:=by rw [hv]; rfl
    rw [e,if_pos hv,zRL h.le8 h.len]
    simp only [cond_false,bnd_some]
    have hF:yQ p<256:=zAv h.le8
    have hFn:yQ p<2 ^ p.Now.length:=zJd _ _
    have key:∃ r,bnd (yD (τ:=List Int) (fun (s1:List Int × Int × Int)=>bif decide (s1.2.2>0) then (bif ((rP .i64 s1.2.2 1)==1) then (bnd (app 8 s1.1 [s1.2.1]) fun l1=>some (.next (l1,IntKind.wrap .i64 (s1.2.1+1),vY .i64 s1.2.2 1))) else (some (.next (s1.1,IntKind.wrap .i64 (s1.2.1+1),vY .i64 s1.2.2 1)))) else (some (.done s1.1))) ([],0,(yQ p:Int))) (fun o1=>some o1)=some r∧r=iz (xU p.Now.length (yQ p)):=by
      refine cZ (fun s=>∃ i:Nat,i≤8∧s=(iz (xU i (yQ p)),(i:Int),((yQ p / 2 ^ i:Nat):Int))) (fun s=>9 - s.2.1.toNat) (fun t=>t=iz (xU p.Now.length (yQ p))) ⟨0,by omega,by simp [xU]⟩ (fun s hI=>?_) (fun t ht=>⟨t,rfl,ht⟩)
      obtain ⟨i,hi,rfl⟩:=hI
      have hd1:yQ p / 2 ^ i<4611686018427387904:=Nat.lt_of_le_of_lt (Nat.div_le_self _ _) (by omega)
      by_cases hz:yQ p / 2 ^ i=0
      · have e1 : decide (((yQ p / 2 ^ i : Nat) : Int) > 0) = false := by rw [hz]; rfl
        simp only [e1,cond_false]
        refine .inr ⟨_,rfl,?_⟩
        have hlt:yQ p<2 ^ i:=by
          rcases Nat.lt_or_ge (yQ p) (2 ^ i) with g | g
          · exact g
          · have := Nat.div_pos g (Nat.two_pow_pos i)
            omega
        rw [zTB hlt hFn]
      · have e1 : decide (((yQ p / 2 ^ i : Nat) : Int) > 0) = true := decide_eq_true (Int.natCast_pos.2 (Nat.pos_of_ne_zero hz))
        have hi8:i<8:=by
          rcases Nat.lt_or_ge i 8 with g | g
          · exact g
          · have : i = 8 := by omega
            subst this
            have:yQ p / 2 ^ 8=0:=Nat.div_eq_of_lt (by omega)
            omega
        have hb:(rP .i64 ((yQ p / 2 ^ i:Nat):Int) 1==1)=(yQ p).testBit i:=by rw [zVx hd1,zNq]
        have hsh:vY .i64 ((yQ p / 2 ^ i:Nat):Int) 1=((yQ p / 2 ^ (i+1):Nat):Int):=by
          have:=eS (k:=.i64) (a:=yQ p / 2 ^ i) (s:=1) (by decide)
          rw [show ((1:Nat):Int)=1 from rfl] at this
          rw [this,Nat.div_div_eq_div_mul,←Nat.pow_add]
        have hw:=zR hi8 (by omega)
        have hap:app 8 (iz (xU i (yQ p))) [(i:Int)]=some (iz (xU i (yQ p)++ [i])):=by
          have hlen:(xU i (yQ p)).length≤8:=Nat.le_trans (List.length_filter_le _ _) (by simp; omega)
          rw [uW (by simp; omega) (by simp; omega)]
          simp [iz]
        simp only [e1,cond_true,hb,hsh,hw]
        refine .inl ?_
        cases hbi:(yQ p).testBit i
        · refine ⟨_, rfl, ⟨i + 1, by omega, ?_⟩, ?_⟩
          · rw [gB,hbi]; rfl
          · show 9 - ((i + 1 : Nat) : Int).toNat < 9 - ((i : Nat) : Int).toNat
            omega
        · simp only [cond_true, hap, bnd_some]
          refine ⟨_,rfl,⟨i+1,by omega,?_⟩,?_⟩
          · rw [gB,hbi]; rfl
          · show 9 - ((i + 1 : Nat) : Int).toNat < 9 - ((i : Nat) : Int).toNat
            omega
    obtain ⟨r,k1,k2⟩:=key
    rw [k1,k2]
  · have e : ((sH p : Int) != 0) = true := by
      rw [bne_iff_ne]; exact_mod_cast hv
    rw [e,if_neg hv]
    rfl
theorem zKL {F:Nat} {G:Nat→Bool} {n:Nat} (hF:F<2 ^ n):∀ {l:List Nat} {S:Nat},dZ F G S l→l.length+(xU n S).length=(xU n F).length
  | [],S,h=>by
    have:S=F:=h
    subst this; simp
  | i::l,S,h=>by
    obtain ⟨hst,hp⟩:=h
    obtain ⟨a,b,_⟩:=kQ hst
    have hin:=zUQ hF a
    have ih:=zKL hF hp
    have key:(xU n (S|||2 ^ i)).length=(xU n S).length+1:=by
      have:∀ m,(xU m (S|||2 ^ i)).length=(xU m S).length+(if i<m then 1 else 0):=by
        intro m
        induction m with
        | zero=>simp [xU]
        | succ m ihm=>
          rw [gB,gB,zJo]
          by_cases hm:i=m
          · subst hm
            simp [b,ihm]
          · simp only [hm, decide_false, Bool.or_false]
            cases S.testBit m
            · simp only [Bool.false_eq_true, if_false, ihm]
              by_cases h1:i<m
              · rw [if_pos h1,if_pos (by omega)]
              · rw [if_neg h1,if_neg (by omega)]
            · simp only [if_true, List.length_append, ihm, List.length_singleton]
              by_cases h1:i<m
              · rw [if_pos h1,if_pos (by omega)]
              · rw [if_neg h1,if_neg (by omega)]
      rw [this n,if_pos hin]
    rw [key] at ih
    rw [List.length_cons]
    omega
theorem zCX {F:Nat} {G:Nat→Bool}:∀ {l:List Nat} {S:Nat},dZ F G S l→∀ i∈l,F.testBit i=true
  | [],S,h,i,hi=>by cases hi
  | j::l,S,h,i,hi=>by
    obtain ⟨hst,hp⟩:=h
    rcases List.mem_cons.1 hi with rfl | hi
    · exact (kQ hst).1
    · exact zCX hp i hi
end Go.Proofs.YtplchdlgdjcojaaGreatDoor
end
section
namespace Go.Proofs.YtplchdlgdjcojaaGreatDoor
open Go
set_option linter.unusedSimpArgs false
set_option linter.unusedVariables false
theorem fM {σ τ ρ:Type} {m:σ→Option (sQ σ τ)} {s0:σ} {k:τ→Option ρ} {R:ρ→Prop} (I:σ→Prop) (μ:σ→Nat) (Q:τ→Prop) (h0:I s0)
    (h:∀ s,I s→∃ r,m s=some r∧match r with | .next s'=>I s'∧μ s'<μ s | .done t=>Q t) (hk:∀ t,Q t→∃ r,k t=some r∧R r):∃ r,bnd (yD m s0) k=some r∧R r:=by
  refine cZ I μ Q h0 (fun s hI=>?_) hk
  obtain ⟨r,h1,h2⟩:=h s hI
  cases r with
  | next s'=>exact .inl ⟨s',h1,h2.1,h2.2⟩
  | done t=>exact .inr ⟨t,h1,h2⟩
def lF:List ByteArray:= [⟨#[98,105,111,115]⟩,⟨#[99,112,108,100]⟩,⟨#[109,101]⟩,⟨#[112,115,117]⟩,⟨#[120,45,49]⟩,⟨#[122,122]⟩]
theorem zQD:jL=some lF:=rfl
def lH (l:List ByteArray):Bool:=decide (l.length≤8)&&(List.range l.length).all fun i=>match l[i]? with
  | some x=>lD x&&(i==0||match l[i - 1]? with | some y=>blt y x | none=>true)
  | none=>true
set_option maxRecDepth 20000 in
theorem zUc:∀ k,k<7→lH (lF.take k)=true:=by decide
set_option maxRecDepth 20000 in
theorem zVn:∀ i,i<6→lD ((lF[i]?).getD ⟨#[]⟩)=true:=by decide
structure zXu (p:xB):Prop where
  now:tE p.Now=true
  next:tE p.Next=true
  needs:jC p.Needs=true
  names:wR p.Now=wR p.Next
  few:p.Needs.length≤6
  two:2≤p.Now.length
theorem eF {c:wH} (h:uK c) {n:Int} (hn:1≤n):∃ r,yJ c n=some r∧uK r.1∧0≤r.2∧r.2<n:=by
  obtain ⟨c',x,h1,h2,h3,h4⟩:=zTU h n
  exact ⟨(c',x),h1,h2,h3,by show x<n; omega⟩
theorem rZ {α β:Type} {x:Option α} {f:α→Option β} {P:α→Prop} {R:β→Prop} (h:∃ a,x=some a∧P a) (k:∀ a,P a→∃ r,f a=some r∧R r):∃ r,bnd x f=some r∧R r:=zVE h k
theorem zBc {p:xB} {l:List Nat} (h:gU p=some l):dZ (yQ p) (qF p) 0 l:=zMa _ _ _ _ (cF.zero _) l h
theorem zMv {p:xB} (hv:sH p=0) {l:List Nat} (hp:dZ (yQ p) (qF p) 0 l):l.length≤8:=by
  have h:=zLU.1 hv
  have:=zKL (F:=yQ p) (n:=p.Now.length) (zJd _ _) hp
  have h2:(xU p.Now.length (yQ p)).length≤8:=Nat.le_trans (List.length_filter_le _ _) (by simp; exact h.le8)
  omega
end Go.Proofs.YtplchdlgdjcojaaGreatDoor
end
section
namespace Go.Proofs.YtplchdlgdjcojaaGreatDoor
open Go
set_option linter.unusedSimpArgs false
set_option linter.unusedVariables false
def zDg:List Int→Option (zE × Nat)
  | k::n::r=>if n=128 then some (⟨k, [],true⟩,2) else if n>28∨(r.length:Int)<n then none else some (⟨k,r.take n.toNat,false⟩,2+n.toNat)
  | _=>none
theorem kM (k n:Int) (r:List Int):zDg (k::n::r)=if n=128 then some (⟨k, [],true⟩,2) else if n>28∨(r.length:Int)<n then none else some (⟨k,r.take n.toNat,false⟩,2+n.toNat):=rfl
theorem zCp {b:List Int} {x:zE} {n:Nat} (hr:rng b) (h:zDg b=some (x,n)):2≤n∧n≤b.length:=by
  match b,h with
  | k::c::r,h=>
    rw [kM] at h
    split at h
    · injection h with h; injection h with _ h; subst h; simp
    · split at h
      · cases h
      · rename_i h1
        have:=hr c (by simp)
        injection h with h; injection h with _ h; subst h
        simp only [List.length_cons]
        omega
theorem zEw {α:Type} {l:List α} {a b:Nat} (h1:a≤b) (h2:b≤l.length):Go.Proofs.YtplchdlgdjcojaaGreatDoor.sub l (a:Int) (b:Int)=some ((l.drop a).take (b - a)):=by
  unfold Go.Proofs.YtplchdlgdjcojaaGreatDoor.sub
  rw [if_pos ⟨by omega,by omega,by omega⟩]
  congr 1
  have e1:((a:Int)).toNat=a:=rfl
  have e2:((b:Int)).toNat=b:=rfl
  rw [e1,e2,List.drop_take]
def zRd (o:Option (zE × Nat)):zE × Int × Bool:=match o with | some (x,n)=>(x,(n:Int),true) | none=>(⟨0, [],false⟩,0,false)
theorem zOx {b:List Int} (hr:rng b) (hl:b.length≤16384):rM b=some (zRd (zDg b)):=by
  unfold rM
  match b,hr,hl with
  | [],_,_=>rfl
  | [k],_,_=>rfl
  | k::c::r,hr,hl=>
    have hc:=hr c (by simp)
    simp only [List.length_cons] at hl
    have e0:elt (k::c::r) 0=some k:=rfl
    have e1:elt (k::c::r) 1=some c:=rfl
    rw [yR (by simp only [List.length_cons,decide_eq_false_iff_not]; omega),e1,bnd_some,e0,kM]
    by_cases h1:c=128
    · rw [xF (by simpa using h1), bnd_some, if_pos h1]
      rfl
    · rw [yR (by simpa using h1), if_neg h1]
      obtain ⟨n,hn,rfl⟩:=sI hc
      have hw:IntKind.wrap .i64 (2+IntKind.wrap .i64 (n:Int))=((2+n:Nat):Int):=by rw [yW (by omega),yO (by omega) (by omega)]; omega
      rw [hw]
      by_cases h2:(n:Int)>28
      · rw [xF (by simpa using h2), bnd_some, cond_true, if_pos (.inl h2)]
        rfl
      · rw [yR (by simpa using h2), bnd_some]
        by_cases h3:(r.length:Int)<(n:Int)
        · rw [xF (by simp only [List.length_cons, decide_eq_true_eq]; omega), if_pos (.inr h3)]
          rfl
        · rw [yR (by simp only [List.length_cons, decide_eq_false_iff_not]; omega), bnd_some, if_neg (by omega)]
          have hs:Go.Proofs.YtplchdlgdjcojaaGreatDoor.sub (k::(n:Int)::r) 2 ((2+n:Nat):Int)=some (r.take n):=by
            have:=zEw (l:=k::(n:Int)::r) (a:=2) (b:=2+n) (by omega) (by simp; omega)
            rw [Nat.add_sub_cancel_left] at this
            exact this
          rw [hs,bnd_some,lV (by simp; omega),bnd_some]
          rfl
def lM:Nat→List Int→Option (List zE × Nat)
  | 0,_=>some ([],0)
  | c+1,b=>match zDg b with
    | none=>none
    | some (x,n)=>match lM c (b.drop n) with
      | none=>none
      | some (l,m)=>some (x::l,n+m)
theorem zCG:∀ (c:Nat) {b:List Int} {l:List zE} {n:Nat},rng b→lM c b=some (l,n)→n≤b.length∧l.length=c
  | 0,b,l,n,_,h=>by injection h with h; injection h with h1 h2; subst h1; subst h2; simp
  | c+1,b,l,n,hr,h=>by
    unfold lM at h
    split at h
    · cases h
    · rename_i x k hk
      split at h
      · cases h
      · rename_i l' m hm
        injection h with h; injection h with h1 h2
        subst h1; subst h2
        have h3:=zCp hr hk
        have h4:=zCG c (hr.drop k) hm
        simp only [List.length_drop,List.length_cons] at*
        omega
def rR:List Int→Option (List zE × Nat)
  | []=>none
  | c::r=>if c<1∨c>32 then none else match lM c.toNat r with
    | none=>none
    | some (l,n)=>if r[n]? =some 0 then some (l,n+2) else none
theorem qQ (c:Int) (r:List Int):rR (c::r)=if c<1∨c>32 then none else match lM c.toNat r with
    | none=>none
    | some (l,n)=>if r[n]? =some 0 then some (l,n+2) else none:=rfl
theorem oU {b:List Int} {l:List zE} {n:Nat} (hr:rng b) (h:rR b=some (l,n)):2≤n∧n≤b.length:=by
  match b,h with
  | c::r,h=>
    rw [qQ] at h
    split at h
    · cases h
    · split at h
      · cases h
      · rename_i l' m hm
        split at h
        · rename_i h0
          injection h with h; injection h with _ h; subst h
          have:=(List.getElem?_eq_some_iff.1 h0).1
          simp only [List.length_cons]
          omega
        · cases h
def zFu (o:Option (List zE × Nat)):List zE × Int × Bool:=match o with | some (l,n)=>(l,(n:Int),true) | none=>([],0,false)
noncomputable def dH (b_p0:List Int) (x2:Int):List zE × Int × Int→Option (sQ (List zE × Int × Int) (((List zE) × Int × Bool) ⊕ (List zE × Int))):=
  (fun (s1:List zE × Int × Int)=>bif decide (s1.2.2<x2) then (bnd (Go.Proofs.YtplchdlgdjcojaaGreatDoor.sub b_p0 s1.2.1 (b_p0.length:Int)) fun l1=>bnd (rM l1) fun r1=>bif !r1.2.2 then (some (.done (.inl ([],0,false)))) else (bnd (app 40 s1.1 [r1.1]) fun l2=>some (.next (l2,IntKind.wrap .i64 (s1.2.1+r1.2.1),IntKind.wrap .u8 (s1.2.2+1))))) else (some (.done (.inr (s1.1,s1.2.1)))))
theorem zGb {b:List Int} (hr:rng b) (hl:b.length≤16384) (c:Nat) (hc:c≤32):∀ (k i at_:Nat) (acc:List zE),i+k=c→at_≤b.length→acc.length≤i→
    yD (dH b (c:Int)) (acc,(at_:Int),(i:Int))=some (match lM k (b.drop at_) with | none=>.inl ([],0,false) | some (l,n)=>.inr (acc++l,((at_+n:Nat):Int)))
  | 0,i,at_,acc,h,_,_=>by
    refine xM ?_
    unfold dH
    simp only
    rw [yR (by simp; omega)]
    simp [lM]
  | k+1,i,at_,acc,h,hat,hacc=>by
    have hsub:Go.Proofs.YtplchdlgdjcojaaGreatDoor.sub b (at_:Int) (b.length:Int)=some (b.drop at_):=by
      rw [zEw hat (Nat.le_refl _)]
      congr 1
      rw [List.take_of_length_le (by simp)]
    have hstep:dH b (c:Int) (acc,(at_:Int),(i:Int))=some (match zDg (b.drop at_) with | none=>.done (.inl ([],0,false)) | some (x,n)=>.next (acc++ [x],((at_+n:Nat):Int),((i+1:Nat):Int))):=by
      unfold dH
      simp only
      rw [xF (by simp; omega),hsub,bnd_some,zOx (hr.drop _) (by simp; omega),bnd_some]
      cases hcg:zDg (b.drop at_) with
      | none=>rfl
      | some p=>
        obtain ⟨x,n⟩:=p
        have hn:=zCp (hr.drop _) hcg
        simp only [List.length_drop] at hn
        simp only [zRd,Bool.not_true,cond_false]
        rw [uW (by simp; omega) (by simp; omega),bnd_some,yO (by omega) (by omega),zAp (by omega) (by omega)]
        rfl
    unfold lM
    cases hcg:zDg (b.drop at_) with
    | none=>rw [hcg] at hstep; exact xM hstep
    | some p=>
      obtain ⟨x,n⟩:=p
      have hn:=zCp (hr.drop _) hcg
      simp only [List.length_drop] at hn
      rw [hcg] at hstep
      refine tJ hstep ?_
      rw [zGb hr hl c hc k (i+1) (at_+n) (acc++ [x]) (by omega) (by omega) (by simp; omega)]
      simp only [List.drop_drop]
      cases hcs:lM k (b.drop (at_+n)) with
      | none=>rfl
      | some q=>
        obtain ⟨l,m⟩:=q
        simp only [List.append_assoc,List.singleton_append]
        rw [Nat.add_assoc]
theorem zQH {b:List Int} (hr:rng b) (hl:b.length≤16384):qI b=some (zFu (rR b)):=by
  unfold qI
  match b,hr,hl with
  | [],_,_=>rfl
  | c::r,hr,hl=>
    have hc:=hr c (by simp)
    have e0:elt (c::r) 0=some c:=rfl
    have hr':rng r:=fun x hx=>hr x (by simp [hx])
    simp only [List.length_cons] at hl
    rw [yR (by simp only [List.length_cons,beq_eq_false_iff_ne,ne_eq]; omega),e0,bnd_some,qQ]
    by_cases h1:c<1
    · rw [xF (by simpa using h1), bnd_some, cond_true, if_pos (.inl h1)]
      rfl
    · rw [yR (by simpa using h1), bnd_some]
      by_cases h2:c>32
      · rw [xF (by simpa using h2), if_pos (.inr h2)]
        rfl
      · rw [yR (by simpa using h2), bnd_some, if_neg (by omega)]
        obtain ⟨n,hn,rfl⟩:=sI hc
        have hlp:=zGb hr (by simp; omega) n (by omega) n 0 1 [] (by omega) (by simp) (by simp)
        unfold dH at hlp
        refine yA hlp ?_
        have e2:((n:Int)).toNat=n:=rfl
        rw [List.drop_succ_cons,List.drop_zero,e2]
        cases hcs:lM n r with
        | none=>rfl
        | some q=>
          obtain ⟨l,m⟩:=q
          have hm:=(zCG n hr' hcs).1
          simp only [List.nil_append,retOr_inr,List.length_cons]
          by_cases h3:1+m=r.length+1
          · rw [xF (by simp; omega), bnd_some, cond_true, if_neg (by rw [List.getElem?_eq_none (by omega)]; simp)]
            rfl
          · have hmr : m < r.length := by omega
            have e3:elt ((n:Int)::r) ((1+m:Nat):Int)=some r[m]:=by
              rw [elt_nat,Nat.add_comm,List.getElem?_cons_succ,List.getElem?_eq_getElem hmr]
            rw [yR (by simp; omega),e3,bnd_some,bnd_some,List.getElem?_eq_getElem hmr]
            by_cases h4:r[m]=0
            · rw [yR (by simpa using h4), if_pos (by rw [h4]), yO (by omega) (by omega)]
              simp only [zFu]
              congr 3
              omega
            · rw [xF (by simpa using h4), if_neg (by simpa using h4)]
              rfl
def eL (x:zE):List Int:=if x.Delete then [x.Key,128] else x.Key::IntKind.wrap .u8 (x.Value.length:Int)::x.Value
def xZ (l:List zE):List Int:=IntKind.wrap .u8 (l.length:Int)::l.flatMap eL++ [0]
theorem zLq (x:zE):2≤(eL x).length∧(eL x).length≤2+x.Value.length:=by
  unfold eL
  split
  · simp
  · simp only [List.length_cons]
    omega
theorem zSS {l:List zE} (h:∀ x∈l,x.Value.length≤1000):(l.flatMap eL).length≤l.length*1002:=by
  induction l with
  | nil=>simp
  | cons x r ih=>
    have h1:=(zLq x).2
    have h2:=h x (by simp)
    have h3:=ih fun y hy=>h y (by simp [hy])
    simp only [List.flatMap_cons,List.length_append,List.length_cons]
    omega
theorem zIe {l:List zE} (hl:l.length≤1000) (hv:∀ x∈l,x.Value.length≤1000):rL l=some (xZ l):=by
  unfold rL
  have hb:∀ i,i≤l.length→(IntKind.wrap .u8 (l.length:Int)::(l.take i).flatMap eL).length≤1+i*1002:=fun i hi=>by
    have:=zSS (l:=l.take i) fun x hx=>hv x (List.mem_of_mem_take hx)
    simp only [List.length_take,List.length_cons] at*
    rw [Nat.min_eq_left hi] at this
    omega
  refine xW (fun i=>(IntKind.wrap .u8 (l.length:Int)::(l.take i).flatMap eL,(i:Int))) l.length (IntKind.wrap .u8 (l.length:Int)::l.flatMap eL) rfl (fun i hi=>?_) ?_ ?_
  · have h1 := hb i (by omega)
    have h2:=hv l[i] (List.getElem_mem hi)
    have h3:i*1002≤1000*1002:=Nat.mul_le_mul_right _ (by omega)
    simp only
    rw [xF (by simp; omega),yS hi,bnd_some,xE hi,List.flatMap_append]
    simp only [List.flatMap_cons,List.flatMap_nil,List.append_nil]
    have hE:∀ (z:List Int),(IntKind.wrap .u8 (l.length:Int)::((l.take i).flatMap eL++z))=(IntKind.wrap .u8 (l.length:Int)::(l.take i).flatMap eL)++z:=fun z=>rfl
    rw [hE]
    generalize hpre:IntKind.wrap .u8 (l.length:Int)::(l.take i).flatMap eL=pre at h1 ⊢
    unfold eL
    cases hd:l[i].Delete
    · simp only [cond_false]
      rw [uW (by simp; omega) (by simp; omega),bnd_some,uW (by simp; omega) (by simp; omega),bnd_some,zR hi (by omega)]
      simp
    · simp only [cond_true]
      rw [uW (by simp; omega) (by simp; omega),bnd_some,zR hi (by omega)]
      simp
  · simp only
    rw [yR (by simp),List.take_length]
  · have h1 := hb l.length (Nat.le_refl _)
    rw [List.take_length] at h1
    have h3:l.length*1002≤1000*1002:=Nat.mul_le_mul_right _ hl
    rw [uW (by simp only [List.length_cons,List.length_nil] at*; omega) (by simp only [List.length_cons,List.length_nil] at*; omega),bnd_some]
    rfl
def sX (b:List Int):Bool:=b.all fun x=>x==255
theorem zKh {b:List Int} (hl:b.length≤16384):qE b=some (sX b):=by
  unfold qE wT vM
  have hf:∀ i (h:i<b.length),(fun i:Nat=>if (b.getD i 255 != 255) then some (.inl (i:Int):Int ⊕ Unit) else none) i=if (fun x:Int=>x != 255) b[i] then some ((fun (i:Nat) (_:Int)=>(.inl (i:Int):Int ⊕ Unit)) i b[i]) else none:=fun i h=>by
    simp only [List.getD_eq_getElem?_getD,List.getElem?_eq_getElem h,Option.getD_some]
  have hL:=zCO (m:=fun (s1:Int)=>bif decide (s1<(b.length:Int)) then (bnd (elt b s1) fun x1=>bnd (sP x1) fun r1=>bif r1 then (some (.done (.inl s1:Int ⊕ Unit))) else (some (.next (IntKind.wrap .i64 (s1+1))))) else (some (.done (.inr ())))) (fun i=>(i:Int)) b.length (fun i=>if (b.getD i 255 != 255) then some (.inl (i:Int):Int ⊕ Unit) else none) (t:=.inr ()) (fun i hi=>?_) ?_
  · have h0 : ((0 : Nat) : Int) = 0 := rfl
    rw [h0] at hL
    rw [hL,bnd_some]
    rcases zBb b (fun x=>x != 255) (fun i _=>(.inl (i:Int):Int ⊕ Unit)) _ hf with ⟨i,hi,h1,_,h3⟩ | ⟨_,h2,h3⟩
    · rw [h3]
      simp only [Option.getD_some,retOr_inl,bnd_some]
      congr 1
      have:sX b=false:=by
        unfold sX
        rw [List.all_eq_false]
        exact ⟨b[i],List.getElem_mem hi,by simpa using h1⟩
      rw [this]
      simp
    · rw [h3]
      simp only [Option.getD_none,retOr_inr,bnd_some]
      congr 1
      have:sX b=true:=by
        unfold sX
        rw [List.all_eq_true]
        intro x hx
        simpa using h2 x hx
      rw [this]
      rfl
  · rw [xF (by simp; omega), yS hi, bnd_some]
    unfold sP
    rw [bnd_some,List.getD_eq_getElem?_getD,List.getElem?_eq_getElem hi]
    simp only [Option.getD_some]
    by_cases hb:b[i]=255
    · rw [yR (by simpa using hb),zR hi (by omega),if_neg (by simpa using hb)]
    · rw [xF (by simpa using hb),if_pos (by simpa using hb)]
  · rw [yR (by simp)]
theorem cB {b:List Int}:sX b=true↔b=List.replicate b.length 255:=by
  unfold sX
  rw [List.all_eq_true,List.eq_replicate_iff]
  simp
end Go.Proofs.YtplchdlgdjcojaaGreatDoor
end
section
namespace Go.Proofs.YtplchdlgdjcojaaGreatDoor
open Go
set_option linter.unusedSimpArgs false
set_option linter.unusedVariables false
abbrev pF:=List (Int × List Int)
def mU (m:pF) (k:Int):Option (List Int):=vI (yC .u8).eq m k
def zAT (m:pF) (k:Int) (v:List Int):pF:=oV (yC .u8).eq m k v
def zCj (m:pF) (k:Int):pF:=zDp (yC .u8).eq m k
def rV (m:pF):List Int:=m.map (·.1)
theorem jM (a b:Int):(yC .u8).eq a b=true↔a=b:=by
  show (a==b)=true↔_
  simp
theorem zPs (m:pF) (k k':Int) (v:List Int):mU (zAT m k v) k'=if k'=k then some v else mU m k':=zDd jM m k k' v
theorem cQ (x:Int × List Int) (r:pF) (k:Int):mU (x::r) k=if k=x.1 then some x.2 else mU r k:=by
  show (bif (yC .u8).eq k x.1 then some x.2 else vI (yC .u8).eq r k)=_
  by_cases h:k=x.1
  · rw [(jM k x.1).2 h,if_pos h]; rfl
  · have : (yC .u8).eq k x.1 = false := by cases hc : (yC .u8).eq k x.1; rfl; exact absurd ((jM k x.1).1 hc) h
    rw [this,if_neg h]; rfl
theorem zFE (x:Int × List Int) (r:pF) (k:Int) (v:List Int):zAT (x::r) k v=if k=x.1 then (k,v)::r else x::zAT r k v:=by
  show (bif (yC .u8).eq k x.1 then (k,v)::r else x::oV (yC .u8).eq r k v)=_
  by_cases h:k=x.1
  · rw [(jM k x.1).2 h,if_pos h]; rfl
  · have : (yC .u8).eq k x.1 = false := by cases hc : (yC .u8).eq k x.1; rfl; exact absurd ((jM k x.1).1 hc) h
    rw [this,if_neg h]; rfl
theorem zBl (x:Int × List Int) (r:pF) (k:Int):zCj (x::r) k=if k=x.1 then r else x::zCj r k:=by
  show (bif (yC .u8).eq k x.1 then r else x::zDp (yC .u8).eq r k)=_
  by_cases h:k=x.1
  · rw [(jM k x.1).2 h,if_pos h]; rfl
  · have : (yC .u8).eq k x.1 = false := by cases hc : (yC .u8).eq k x.1; rfl; exact absurd ((jM k x.1).1 hc) h
    rw [this,if_neg h]; rfl
theorem kW (x:Int × List Int) (r:pF):rV (x::r)=x.1::rV r:=rfl
theorem zBw {m:pF} {k:Int}:mU m k=none↔k∉rV m:=by
  induction m with
  | nil=>simp [mU,vI,rV]
  | cons x r ih=>
    rw [cQ,kW,List.mem_cons]
    by_cases h:k=x.1
    · simp [h]
    · rw [if_neg h, ih]
      simp [h]
theorem zGy {m:pF} {k x:Int} (h:x∈rV (zCj m k)):x∈rV m:=by
  induction m with
  | nil=>exact h
  | cons y r ih=>
    rw [kW,List.mem_cons]
    rw [zBl] at h
    split at h
    · exact .inr h
    · rw [kW, List.mem_cons] at h
      rcases h with h | h
      · exact .inl h
      · exact .inr (ih h)
theorem zGw {m:pF} {k x:Int} {v:List Int} (h:x∈rV (zAT m k v)):x=k∨x∈rV m:=by
  induction m with
  | nil=>left; simpa [zAT,oV,rV] using h
  | cons y r ih=>
    rw [kW,List.mem_cons]
    rw [zFE] at h
    split at h
    · rw [kW, List.mem_cons] at h
      rcases h with h | h
      · exact .inl h
      · exact .inr (.inr h)
    · rw [kW, List.mem_cons] at h
      rcases h with h | h
      · exact .inr (.inl h)
      · rcases ih h with h | h
        · exact .inl h
        · exact .inr (.inr h)
def NdK (m:pF):Prop:=(rV m).Nodup
theorem NdK.set {m:pF} (h:NdK m) (k:Int) (v:List Int):NdK (zAT m k v):=by
  induction m with
  | nil=>simp [NdK,zAT,oV,rV]
  | cons y r ih=>
    have h1:=List.nodup_cons.1 h
    rw [zFE]
    split
    · rename_i e
      exact List.nodup_cons.2 ⟨by rw [e]; exact h1.1,h1.2⟩
    · rename_i e
      refine List.nodup_cons.2 ⟨fun hm=>?_,ih h1.2⟩
      rcases zGw hm with e' | hm
      · exact e e'.symm
      · exact h1.1 hm
theorem NdK.del {m:pF} (h:NdK m) (k:Int):NdK (zCj m k):=by
  induction m with
  | nil=>exact h
  | cons y r ih=>
    have h1:=List.nodup_cons.1 h
    rw [zBl]
    split
    · exact h1.2
    · exact List.nodup_cons.2 ⟨fun hm=>h1.1 (zGy hm),ih h1.2⟩
theorem zPi {m:pF} (h:NdK m) (k k':Int):mU (zCj m k) k'=if k'=k then none else mU m k':=by
  induction m with
  | nil=>simp [mU,zCj,zDp,vI]
  | cons y r ih=>
    have h1:=List.nodup_cons.1 h
    have ih:=ih h1.2
    rw [zBl]
    by_cases hk:k=y.1
    · rw [if_pos hk]
      by_cases hk':k'=k
      · rw [if_pos hk', zBw, hk', hk]
        exact h1.1
      · rw [if_neg hk',cQ,if_neg (by rw [←hk]; exact hk')]
    · rw [if_neg hk, cQ, ih, cQ]
      by_cases hk':k'=y.1
      · rw [if_pos hk',if_neg (by rw [hk']; exact fun e=>hk e.symm),if_pos hk']
      · rw [if_neg hk',if_neg hk']
def Asc (K:List zE):Prop:=K.Pairwise fun a b=>a.Key<b.Key
def Nd (K:List zE):Prop:=∀ x∈K,x.Delete=false
def nX (K:List zE) (k:Int):Option (List Int):=(K.find? fun x=>x.Key==k).map (·.Value)
theorem zEO (k:Int):nX [] k=none:=rfl
theorem vU (x:zE) (K:List zE) (k:Int):nX (x::K) k=if x.Key=k then some x.Value else nX K k:=by
  unfold nX
  rw [List.find?_cons]
  by_cases h:x.Key=k
  · simp [h]
  · have : (x.Key == k) = false := by simpa using h
    rw [this,if_neg h]
theorem gG {K:List zE} {k:Int}:nX K k=none↔∀ x∈K,x.Key≠k:=by
  unfold nX
  rw [Option.map_eq_none_iff,List.find?_eq_none]
  simp
theorem zJl:∀ {K1 K2:List zE},Asc K1→Asc K2→Nd K1→Nd K2→(∀ k,nX K1 k=nX K2 k)→K1=K2
  | [], [],_,_,_,_,_=>rfl
  | [],b::r,_,_,_,_,h=>by
    have:=h b.Key
    rw [zEO,vU,if_pos rfl] at this
    cases this
  | a::r, [],_,_,_,_,h=>by
    have:=h a.Key
    rw [zEO,vU,if_pos rfl] at this
    cases this
  | a::r1,b::r2,h1,h2,n1,n2,h=>by
    have p1:=List.pairwise_cons.1 h1
    have p2:=List.pairwise_cons.1 h2
    have hk:a.Key=b.Key:=by
      rcases Int.lt_trichotomy a.Key b.Key with hlt | heq | hgt
      · exfalso
        have:=h a.Key
        rw [vU,if_pos rfl,vU,if_neg (by omega)] at this
        have h3:nX r2 a.Key=none:=gG.2 fun x hx=>by have:=p2.1 x hx; omega
        rw [h3] at this
        cases this
      · exact heq
      · exfalso
        have:=h b.Key
        rw [vU,if_neg (by omega),vU,if_pos rfl] at this
        have h3:nX r1 b.Key=none:=gG.2 fun x hx=>by have:=p1.1 x hx; omega
        rw [h3] at this
        cases this
    have hv:a.Value=b.Value:=by
      have:=h a.Key
      rw [vU,if_pos rfl,vU,if_pos hk.symm] at this
      injection this
    have hd:a.Delete=b.Delete:=(n1 a (by simp)).trans (n2 b (by simp)).symm
    have hab:a=b:=by
      obtain ⟨ak,av,ad⟩:=a
      obtain ⟨bk,bv,bd⟩:=b
      simp only at hk hv hd
      subst hk; subst hv; subst hd
      rfl
    subst hab
    congr 1
    refine zJl p1.2 p2.2 (fun x hx=>n1 x (by simp [hx])) (fun x hx=>n2 x (by simp [hx])) fun k=>?_
    by_cases hka:a.Key=k
    · rw [gG.2 (fun x hx=>by have:=p1.1 x hx; omega),gG.2 (fun x hx=>by have:=p2.1 x hx; omega)]
    · have := h k
      rwa [vU,if_neg hka,vU,if_neg hka] at this
def appK (K:List zE) (c:zE):List zE:=
  if c.Delete then K.filter fun x=>x.Key != c.Key else (K.filter fun x=>decide (x.Key<c.Key))++c::K.filter fun x=>decide (c.Key<x.Key)
def vE (K:List zE) (l:List zE):List zE:=l.foldl appK K
theorem zKd {K:List zE} (h:Asc K) (c:zE):Asc (appK K c):=by
  unfold appK
  split
  · exact h.sublist List.filter_sublist
  · refine List.pairwise_append.2 ⟨h.sublist List.filter_sublist, List.pairwise_cons.2 ⟨fun x hx => ?_, h.sublist List.filter_sublist⟩, fun x hx y hy => ?_⟩
    · have := (List.mem_filter.1 hx).2
      simpa using this
    · have h1 := (List.mem_filter.1 hx).2
      simp only [decide_eq_true_eq] at h1
      rcases List.mem_cons.1 hy with rfl | hy
      · exact h1
      · have h2 := (List.mem_filter.1 hy).2
        simp only [decide_eq_true_eq] at h2
        omega
theorem zNO {K:List zE} (h:Nd K) (c:zE):Nd (appK K c):=by
  unfold appK
  split
  · exact fun x hx=>h x (List.mem_filter.1 hx).1
  · rename_i hc
    intro x hx
    rcases List.mem_append.1 hx with hx | hx
    · exact h x (List.mem_filter.1 hx).1
    · rcases List.mem_cons.1 hx with rfl | hx
      · simpa using hc
      · exact h x (List.mem_filter.1 hx).1
theorem aI (K:List zE) (p:zE→Bool) (k:Int) (hp:∀ x∈K,x.Key=k→p x=true):nX (K.filter p) k=nX K k:=by
  induction K with
  | nil=>rfl
  | cons y r ih=>
    have ih:=ih fun x hx=>hp x (by simp [hx])
    rw [List.filter_cons,vU]
    by_cases hy:y.Key=k
    · rw [if_pos (hp y (by simp) hy),vU,if_pos hy,if_pos hy]
    · rw [if_neg hy]
      split
      · rw [vU,if_neg hy,ih]
      · exact ih
theorem oW (K:List zE) (p:zE→Bool) (k:Int) (hp:∀ x∈K,x.Key=k→p x=false):nX (K.filter p) k=none:=by
  rw [gG]
  intro x hx e
  have:=List.mem_filter.1 hx
  rw [hp x this.1 e] at this
  exact absurd this.2 (by decide)
theorem zJA (K L:List zE) (k:Int):nX (K++L) k=(nX K k).or (nX L k):=by
  unfold nX
  rw [List.find?_append]
  cases K.find? _ <;> rfl
theorem zHk (K:List zE) (c:zE) (k:Int):nX (appK K c) k=if k=c.Key then (if c.Delete then none else some c.Value) else nX K k:=by
  unfold appK
  by_cases hk:k=c.Key
  · subst hk
    rw [if_pos rfl]
    split
    · exact oW _ _ _ fun x _ e=>by simp [e]
    · rw [zJA, oW _ _ _ (fun x _ e => by simp [e]), vU, if_pos rfl]
      rfl
  · rw [if_neg hk]
    split
    · exact aI _ _ _ fun x _ e=>by simp [e,hk]
    · rw [zJA, vU, if_neg (fun e => hk e.symm)]
      by_cases hlt:k<c.Key
      · rw [aI _ _ _ (fun x _ e => by simp [e, hlt]), oW _ _ _ (fun x _ e => by simp [e]; omega)]
        cases nX K k <;> rfl
      · rw [oW _ _ _ (fun x _ e => by simp [e]; omega), aI _ _ _ (fun x _ e => by simp [e]; omega)]
        rfl
theorem zEG:∀ {l K:List zE},Asc K→Asc (vE K l)
  | [],_,h=>h
  | c::l,_,h=>zEG (l:=l) (zKd h c)
theorem zIn:∀ {l K:List zE},Nd K→Nd (vE K l)
  | [],_,h=>h
  | c::l,_,h=>zIn (l:=l) (zNO h c)
theorem zKZ:∀ {l K:List zE} {x:zE},x∈vE K l→x∈K∨x∈l
  | [],_,_,h=>.inl h
  | c::l,K,x,h=>by
    rcases zKZ (l:=l) h with h | h
    · unfold appK at h
      split at h
      · exact .inl (List.mem_filter.1 h).1
      · rcases List.mem_append.1 h with h | h
        · exact .inl (List.mem_filter.1 h).1
        · rcases List.mem_cons.1 h with rfl | h
          · exact .inr (by simp)
          · exact .inl (List.mem_filter.1 h).1
    · exact .inr (by simp [h])
def zKV (l:List zE) (k:Int) (o:Option (List Int)):Option (List Int):=l.foldl (fun o c=>if k=c.Key then (if c.Delete then none else some c.Value) else o) o
theorem zHw:∀ (l K:List zE) (k:Int),nX (vE K l) k=zKV l k (nX K k)
  | [],_,_=>rfl
  | c::l,K,k=>by
    unfold vE zKV
    rw [List.foldl_cons,List.foldl_cons,←zHk]
    exact zHw l (appK K c) k
def iU (ks:List Int):List Int:=ks.mergeSort fun x y=>decide (x≤y)
theorem gQ (ks:List Int):(iU ks).Perm ks:=List.mergeSort_perm _ _
theorem zPp {ks:List Int} (h:ks.Nodup):(iU ks).Pairwise (· < ·):=by
  have h1:(iU ks).Pairwise fun x y=>decide (x≤y)=true:=List.pairwise_mergeSort (fun a b c h1 h2=>by simp only [decide_eq_true_eq] at*; omega) (fun a b=>by simp only [Bool.or_eq_true,decide_eq_true_eq]; omega) ks
  have h2:(iU ks).Nodup:=(gQ ks).nodup_iff.2 h
  have:=h1.and h2
  refine this.imp fun hh=>?_
  simp only [decide_eq_true_eq,ne_eq] at hh
  omega
def toL (m:pF):List zE:=(iU (rV m)).map fun k=>⟨k,(mU m k).getD [],false⟩
theorem zRG (m:pF):Nd (toL m):=fun x hx=>by
  obtain ⟨k,_,rfl⟩:=List.mem_map.1 hx
  rfl
theorem zOa {m:pF} (h:NdK m):Asc (toL m):=by
  unfold Asc toL
  rw [List.pairwise_map]
  exact (zPp h).imp fun h=>h
theorem zCt (m:pF):(toL m).length=m.length:=by
  unfold toL
  rw [List.length_map,(gQ _).length_eq]
  simp [rV]
theorem aJ (m:pF) (k:Int):nX (toL m) k=mU m k:=by
  have key:∀ (ks:List Int),nX (ks.map fun k=>(⟨k,(mU m k).getD [],false⟩:zE)) k=if k∈ks then some ((mU m k).getD []) else none:=by
    intro ks
    induction ks with
    | nil=>rfl
    | cons a r ih=>
      rw [List.map_cons,vU]
      by_cases h:a=k
      · subst h; simp
      · rw [if_neg h, ih]
        have:k≠a:=fun e=>h e.symm
        simp [this]
  unfold toL
  rw [key]
  by_cases h:k∈rV m
  · rw [if_pos ((gQ _).mem_iff.2 h)]
    cases hg:mU m k with
    | none=>exact absurd h (zBw.1 hg)
    | some v=>rfl
  · rw [if_neg (fun hm=>h ((gQ _).mem_iff.1 hm)),zBw.2 h]
def bK (m:pF) (l:List zE):pF:=l.foldl (fun m c=>if c.Delete then zCj m c.Key else zAT m c.Key c.Value) m
theorem zAw:∀ {l:List zE} {m:pF},NdK m→NdK (bK m l)
  | [],_,h=>h
  | c::l,m,h=>by
    unfold bK
    rw [List.foldl_cons]
    split
    · exact zAw (l:=l) (h.del _)
    · exact zAw (l:=l) (h.set _ _)
theorem zEj:∀ {l:List zE} {m:pF},NdK m→toL (bK m l)=vE (toL m) l
  | [],_,_=>rfl
  | c::l,m,h=>by
    unfold bK vE
    rw [List.foldl_cons,List.foldl_cons]
    have h1:NdK (if c.Delete=true then zCj m c.Key else zAT m c.Key c.Value):=by split; exact h.del _; exact h.set _ _
    have h2:toL (if c.Delete=true then zCj m c.Key else zAT m c.Key c.Value)=appK (toL m) c:=by
      refine zJl (zOa h1) (zKd (zOa h) c) (zRG _) (zNO (zRG _) c) fun k=>?_
      rw [aJ,zHk,aJ]
      split
      · rw [zPi h]
      · rw [zPs]
    rw [←h2]
    exact zEj (l:=l) h1
theorem zLh {l:List zE} {m:pF} (h:NdK m):(bK m l).length=(vE (toL m) l).length:=by rw [←zEj h,zCt]
theorem zJu (m:pF) (l:List zE) (hl:l.length≤1000000) (hv:∀ x∈l,x.Value.length≤1000000):wM (some m) l=some (some (bK m l)):=by
  unfold wM zAb
  rw [bnd_some]
  refine xW (fun i=>((i:Int),some (bK m (l.take i)))) l.length (some (bK m l)) rfl (fun i hi=>?_) ?_ rfl
  · have h2 := hv l[i] (List.getElem_mem hi)
    simp only
    rw [xF (by simp; omega),yS hi,bnd_some,xE hi,zR hi (by omega)]
    unfold bK
    rw [List.foldl_append,List.foldl_cons,List.foldl_nil]
    cases hd:l[i].Delete
    · rw [cond_false, lV (by omega), bnd_some]
      rfl
    · rw [cond_true]
      rfl
  · simp only
    rw [yR (by simp),List.take_length]
theorem zOE {m:pF} (hm:NdK m) (hl:m.length≤jI) (hv:∀ k v,mU m k=some v→v.length≤1000000):wV (some m)=some (toL m):=by
  unfold wV zCY iV
  have hsk:((some m:Option pF).getD [])=m:=rfl
  have hlen:(iU (rV m)).length=m.length:=by rw [(gQ _).length_eq]; simp [rV]
  have hks:((m.map (·.1)).mergeSort fun x y=>decide (x≤y))=iU (rV m):=rfl
  rw [bnd_some,hsk,if_pos hl,bnd_some,hks]
  have hl1:m.length≤1000:=Nat.le_trans hl zFr
  refine xW (fun i=>((toL m).take i,(i:Int))) m.length (toL m) rfl (fun i hi=>?_) ?_ rfl
  · have hi' : i < (iU (rV m)).length := by omega
    have hit:i<(toL m).length:=by rw [zCt]; exact hi
    have hg:(toL m)[i]=⟨(iU (rV m))[i],(mU m (iU (rV m))[i]).getD [],false⟩:=by simp [toL]
    have hvl:((mU m (iU (rV m))[i]).getD []).length≤1000000:=by
      cases hh:mU m (iU (rV m))[i] with
      | none=>simp
      | some v=>exact hv _ v hh
    simp only
    rw [xF (by simp; omega),yS hi',bnd_some]
    have hcl:zP ((vI (yC .u8).eq m (iU (rV m))[i]).getD [])=some ((mU m (iU (rV m))[i]).getD []):=lV hvl
    rw [hcl,bnd_some,uW (by simp; omega) (by simp; omega),bnd_some,zR hi (by omega),xE hit,hg]
  · simp only
    rw [yR (by rw [hlen]; simp),←zCt,List.take_length]
end Go.Proofs.YtplchdlgdjcojaaGreatDoor
end
