/-
  Texts of this seat, put together: rules, walks, plain laws.
  Conditions: none.
-/
import Derived.Test.YtjconpohbhlcmaaGreatDoorVX5
noncomputable section
namespace Go.Proofs.YtjconpohbhlcmaaGreatDoor
open Go IntKind
set_option linter.unusedVariables false
set_option linter.defProp false
set_option linter.unusedSimpArgs false
set_option linter.unusedSectionVars false
set_option maxHeartbeats 4000000
set_option maxRecDepth 10000
variable{f e h i j S m o q r t x w y T U Y i1:Nat}{A B D C E G F H J M I P L K N Q R:Option Addr}
section
def zMD[AX]{k n s g}(d:gG k n s=some g):DI 84 [DC (zL k A f B e),DC (xQ n C h),AO s] [AB A f k.Slots.e0.BG.Data,AB B e k.Slots.e1.BG.Data,AB C h n.Data] (λv w=>∃o m q r,v=FC [DC (zL g.1 o m q r),AO g.2]/\w=[AB o m g.1.Slots.e0.BG.Data,AB q r g.1.Slots.e1.BG.Data]):=CW.iz O λj T=>.k 1 O<|.box O O λU=>.box O O λV=>.alloc O O λW=>.v 121 O<|.lb 0 2 O<|.bd d λX y d=>.cv [3,4] (fC y) O<|.u 111 O<|.cb d O (λd=>.k 31 O<|.sb 0 0 O<|.u 1 O<|.kl 1 5 O<|.BF (λ_ j=>j.BR (DN BQ))<|.BF (λ_ j=>j.BR (DN BQ))<|ij d▸.rt O YO (.cell O KN O (.tmp O .nil)) O ⟨none,0,none,0,O,O⟩ (zk 2 3 [0,0] [] 0 O)) λd=>.g 221 O<|.bd d λD i d=>.ck 0 (λ(t:Unit)=>[2,3,4,6,.s 35 (.bool D)]) (λt=>[]) O O (.k 1 O<|.lb 0 1 O<|.bd i λY E i=>.cv [5] (gJ E) O<|.n 2 O<|.gs 18 i O (λi=>ij i▸.bu O O zw) λi=>.n 1 O<|.CV O O<|.lb 0 1 O<|.n 1 O<|.CV O O<|.lb 0 2 O<|.n 3 O<|.gs 25 i O (λi=>ij i▸.bu O O zw) λi=>.n 4 O<|.gs 29 i O (λi=>ij i▸.bu O O zw) λi=>.n 2 O<|.CV O O<|.lb 4 1 O<|ij i▸.bu O O zw)<|λt=>.cb d O (λd=>.k 21 O<|.sb 0 0 O<|.u 1 O<|.kl 1 5 O<|.BF (λ_ j=>j.BR (DN BQ))<|.BF (λ_ j=>j.BR (DN BQ))<|ij d▸.rt O YO (.cell O KN O (.tmp O .nil)) O ⟨none,0,none,0,O,O⟩ (zk 2 3 [0,0] [] 0 O)) λd=>.k 11 O<|.lb 0 2 O<|.bd d λS F d=>.ct 8 [3,4] [] 0 (oV F) O λo m q r=>.sb 0 4 O<|.u 1 O<|.kl 5 2 O<|.k 21 O<|.lb 4 4 O<|.n 1 O<|.bd d λZ G d=>.sub (E:=(DN BQ)) O O (zm 5 O) O O O O O O O G λa0 b=>by exact .BF (λ_ j=>j.GI BQ 5)<|.bd d λc H d=>.app (E:=BQ) H O O O .z O O O O O O O O (lI GH) O O λI J=>by exact .n 1 O<|.sb 4 6 O<|.u 1 O<|.pg [0,0,1,1,1,1] 2 O<|.k 21 O<|.lb 14 2 O<|.n 1 O<|.lb 0 0 O<|.n 2 O<|.bd d λl x d=>.Ae (sz:=6) x O O O O O O O O<|.BF (λ_ j=>(j.sl [1] 0 O).CZ)<|.bd d λp K d=>.Qy (ls:=rH) 0 [.string S.Name] [AO S.Active,AO S.Running,.bool S.CX] [(S.Slots.e0,((o,m),())),(S.Slots.e1,((q,r),()))] (λa5=>((I,J),())) x (sW.VQ K) O O (IQ 2 O) O O O ⟨(zm 2 O),(zm 3 O),trivial⟩ O O O O (λ_=>O) (λ_=>⟨GH,trivial⟩) λXc a=>by obtain⟨L,M,rfl⟩:=Rx a;obtain⟨⟨N,P⟩,_⟩:=L;obtain⟨⟨Q,R⟩,_⟩:=M;exact .nm 8 O<|.u 1 O<|.kl 3 4 O<|.k 1 O<|.lb 0 0 O<|.sb 0 3 O<|.u 1 O<|.kl 1 1 O<|ij d▸.rt O YO (.cell O (.head _) O (.tmp O .nil)) O ⟨N,P,Q,R,O,O⟩ (zk 2 3 [1,2] [] 0 O)
def jO[AX](c:zA)(k:Int):Option (zA×Int):=
 bnd (qU c) λh=>bif(h !=0)then some ((⟨⟨#[]⟩,(⟨(⟨(⟨⟨#[]⟩,(⟨0,0,0⟩:zS),[]⟩:zO),0⟩:yJ),(⟨(⟨⟨#[]⟩,(⟨0,0,0⟩:zS),[]⟩:zO),0⟩:yJ)⟩:(sW yJ)),0,0,false⟩:zA),h)else bnd (sQ c) λf=>bnd (CO [f.Slots.e0,f.Slots.e1] (wrap .i64 (1-f.Running))) λi=>bnd (sW.set f.Slots (wrap .i64 (1-f.Running)) (⟨i.BG,k⟩:yJ)) λe=>bnd (CO [e.e0,e.e1] (wrap .i64 (1-f.Running))) λj=>bnd (oW j f.Name) λS=>bif !S then some ((⟨⟨#[]⟩,(⟨(⟨(⟨⟨#[]⟩,(⟨0,0,0⟩:zS),[]⟩:zO),0⟩:yJ),(⟨(⟨⟨#[]⟩,(⟨0,0,0⟩:zS),[]⟩:zO),0⟩:yJ)⟩:(sW yJ)),0,0,false⟩:zA),5)else some ((⟨f.Name,e,f.Active,f.Running,f.CX⟩:zA),0)
def zEx[AX]{n p k}(c:jO n p=some k):DI 85 [DC (zL n A f B e),.int .u32 p] [AB A f n.Slots.e0.BG.Data,AB B e n.Slots.e1.BG.Data] (λv D=>∃o m q r,v=FC [DC (zL k.1 o m q r),AO k.2]/\D=[AB o m k.1.Slots.e0.BG.Data,AB q r k.1.Slots.e1.BG.Data]):=CW.iz O λi M=>.k 1 O<|.box O O λN=>.alloc O O λP=>.v 121 O<|.lb 0 1 O<|.bd c λQ E c=>.cv [2,3] (fC E) O<|.u 111 O<|.cb c O (λc=>.k 31 O<|.sb 0 0 O<|.u 1 O<|.kl 1 3 O<|.BF (λ_ i=>i.BR (DN BQ))<|.BF (λ_ i=>i.BR (DN BQ))<|ij c▸.rt O YP (.cell O KN O (.tmp O .nil)) O ⟨none,0,none,0,O,O⟩ (zk 2 3 [0,0] [] 0 O)) λc=>.k 11 O<|.lb 0 1 O<|.bd c λh F c=>.ct 6 [2,3] [] 0 (oV F) O λo m q r=>.sb 0 3 O<|.u 1 O<|.kl 4 2 O<|.k 21 O<|.lb 14 0 O<|.v 411 O<|.bd c λR x c=>.Ae (sz:=6) x O O O O O O O O<|.n 1 O<|.bd c λs G c=>.Qy (ls:=rH) 5 [.string h.Name] [AO h.Active,AO h.Running,.bool h.CX] [(h.Slots.e0,((o,m),())),(h.Slots.e1,((q,r),()))] (λj=>((j.1.1,j.1.2),())) x (sW.VQ G) O O .z O O O ⟨(.head _),GH,trivial⟩ O O O O (λ_=>O) (λ_=>⟨(.head _),trivial⟩) λb a=>by obtain⟨H,I,rfl⟩:=Rx a;obtain⟨⟨t,w⟩,_⟩:=H;obtain⟨⟨y,T⟩,_⟩:=I;exact .nm 6 O<|.u 1 O<|.kl 3 2 O<|.g 22 O<|.regionF mixed (by kernel_rfl)<|.n 2 O<|.bd c λJ C c=>.Ae (sz:=6) C O O O O O O O O<|.Bj (ls:=rH) 0 [.string h.Name] [AO h.Active,AO h.Running,.bool h.CX] [(s.e0,((t,w),())),(s.e1,((y,T),()))] (λj=>DC (qM J j.1.1 j.1.2)) C O O (.head _) O O O ⟨GH,(zm 2 O),trivial⟩ O (λ_=>O) λK=>by obtain⟨⟨S,g⟩,_⟩:=K;exact .nm 5 O<|.p O O<|.lb 0 1 O<|.bd c λU L c=>.cv [0] (dA L) O<|.uq O<|.kl 0 1 O<|.cb c O (λc=>.k 21 O<|.sb 0 3 O<|.u 1 O<|.kl 1 3 O<|.BF (λ_ i=>i.BR (DN BQ))<|.BF (λ_ i=>i.BR (DN BQ))<|ij c▸.rt O YP (.cell O KN O (.tmp O .nil)) O ⟨none,0,none,0,O,O⟩ (zk 2 3 [0,0] [] 0 O)) λc=>.k 11 O<|.lb 0 0 O<|.sb 0 3 O<|.u 1 O<|.kl 1 1 O<|ij c▸.rt O YP (.cell O (.head _) O (.tmp O .nil)) O ⟨t,w,y,T,O,O⟩ (zk 2 3 [1,2] [] 0 O)
def rM[AX](c:zH)(l:Int)(d:(List Int))(m:zG)(g:yB):Option (zG×yB×Int):=
 bnd (zZ (τ:=List Int) (λ(f:List Int×Int)=>bif decide (f.2<(d.length:Int))then bnd (CO d f.2) λh=>bnd (app 1 f.1 [wrap .u8 h]) λi=>some (.next (i,wrap .i64 (f.2+1)))else some (.done f.1)) ([wrap .u8 l,wrap .u8 c.mask],0)) λj=>bnd (vZ c.store) λk=>bnd (xL m ([(⟨32,j,false⟩:zF)]) g) λe=>some (e.1,e.2.1,e.2.2)
def zAP{l:Nat}{m:Nat}{o:Nat}[AX]{p g s V k t}(u:rM p g s V k=some t):DI 87 [BX l,AO g,AV F s S] [BH B e p.needs,BM C h p.AZ.Have,AB D i p.AZ.Data,BP E j p.order,BP F S s,ED G q V.Keys,BJ l p m A f B e C h D i E j,AU A f p.devices,BZ m V o G q,BN o k H r I x,AL H r k.Data,AY I x k.EN] (λv Y=>∃K L M N P n,v=AO t.2.2/\Y=[ED K L t.1.Keys,BJ l p m A f B e C h D i E j,AU A f p.devices,BZ m t.1 o K L,BN o t.2.1 M N P n,AL M N t.2.1.Data,AY P n t.2.1.EN]):=CW.iz O λy b3=>.k 6111 O<|.lb 8 6 O<|.n 1 O<|.bS O λZ=>.u 1121 O<|.BF (λ_ y=>y.KX (E:=BQ) (e:=5) [wrap .u8 g,wrap .u8 p.mask] O O)<|by exact .bd u λW X u=>by exact .ck 6 (λ(T:EQ)=>[0,.s 7 (AV T.1 W T.2)]) (λT=>[AL T.1 T.2 W,1,2,3,4]) O O (.lp X ((EL Z),([wrap .u8 g,wrap .u8 p.mask]:List Int).length) 1 (λ(U:List Int×Int) (J:EQ)=>[0,2,.s 7 (AV J.1 U.1 J.2),.s 8 (AO U.2)]) (λU J=>[AL J.1 J.2 U.1]) O O O zw<|λU ⟨K,L⟩ b4 a b w=>.g 112 O<|by exact .cb w O (λw=>.g 21 O<|.bk<|.k 41 O<|by exact .bd w λb5 c w=>.II c 5 O λb6 d=>.ld d 0 0 O<|.n 1 O<|.bS O λb7=>by exact .bd w λb8 X w=>.app (E:=BQ) X O O O (IQ 2 O) O O O O O O O O (jC (.head _) O O) O O λP n=>by exact .n 1 O<|.done<|.bn<|.kl 1 2 O<|.k 1 O<|.bh (P,n) w a O O zw) λw=>.xx<|hy w b▸.hE (K,L) O (zl [0,0,0,0,0] 1 O))<|λ⟨M,N⟩=>.k 41 O<|.lb 0 6 O<|.n 2 O<|.bS O λb9=>by exact .bd u λc0 z u=>by exact .ss 34 (xY z)<|.BF (λ_ y=>(y.sl [1] 0 O).CZ)<|.BF (λ_ y=>Sat.jq (ls:=zQ) (e:=205) [((⟨32,W,false⟩:zF),((M,N),()))] O O O ⟨(.head _),trivial⟩ (y.sl [1] 0 O))<|.BF (λ_ y=>y.JW)<|by exact .bd u λQ a6 u=>.call (jL (e:=m) (f:=o) a6) O O O O (zd [10,4] [9,9,9,9] 0 O)<|by rintro _ _ ⟨a7,a8,a9,b0,b1,b2,rfl,rfl⟩;exact .nm 14 O<|.u 1 O<|.pg [0,0,0,0,0,2,2,2,2] 3 O<|ij u▸.rv O O ⟨a7,a8,a9,b0,b1,b2,O,O⟩ (zk 7 5 [6] [9,9,1,1,1,1] 0 O)
def wD[AX](c:zH)(d:zG)(A:yB):Option (zH×zG×yB×Int):=
 bnd (bif(c.phase !=1)then some true else bnd (mS c.AZ) λw=>some (!w):Option Bool) λy=>bif y then some (c,d,A,46)else bnd (bI c.AZ) λs=>bnd (dB s.1) λh=>bif(h.2 !=0)then some (c,d,A,h.2)else bnd (oL c h.1) λj=>bif(j.2 !=0)then some (c,d,A,j.2)else bnd (pO j.1) λS=>bif(S.2 !=0)then some (c,d,A,S.2)else bif((S.1.length:Int)==0)then bnd (sU c) λq=>some (q.1,d,A,q.2)else bnd (zZ (τ:=zH×Int) (λ(f:zH×Int×Int)=>bif decide (f.2.2<(f.1.devices.length:Int))then bnd (CO f.1.devices f.2.2) λm=>bnd (cK .i64 m.Active (wrap .u64 f.2.2)) λn=>bnd (U3 h.1 m.Name) λr=>bnd (CO j.1.Now f.2.2) λo=>bnd (CO j.1.Next f.2.2) λk=>bif((o.Name.toList==k.Name.toList)&&(((o.Version.CB==k.Version.CB)&&((o.Version.CG==k.Version.CG)&&((o.Version.CQ==k.Version.CQ)&&true)))&&true))then some (.next (f.1,GR .i64 f.2.1 n,wrap .i64 (f.2.2+1)))else(bnd (gU m) λt=>bnd (CO h.1.BA r) λx=>bnd (gG t.1 x (x.Data.length:Int)) λu=>bnd (CO h.1.BA r) λv=>bnd (lG v) λT=>bnd (jO u.1 T) λU=>bnd (CO f.1.devices f.2.2) λi1=>bnd (uF f.1.devices f.2.2 U.1) λY=>some (.next ((⟨f.1.store,Y,f.1.needs,f.1.phase,f.1.AZ,f.1.mask,f.1.order⟩:zH),GR .i64 f.2.1 n,wrap .i64 (f.2.2+1))))else some (.done (f.1,f.2.1))) (c,0,0)) λe=>bnd (rM (⟨e.1.store,e.1.devices,e.1.needs,e.1.phase,e.1.AZ,e.2,e.1.order⟩:zH) 2 S.1 d A) λi=>bif(i.2.2 !=0)then some ((⟨e.1.store,e.1.devices,e.1.needs,e.1.phase,e.1.AZ,e.2,e.1.order⟩:zH),i.1,i.2.1,i.2.2)else some ((⟨e.1.store,e.1.devices,e.1.needs,2,(⟨0,0,[],[]⟩:yA),e.2,S.1⟩:zH),i.1,i.2.1,0)
def zEK{j:Nat}{l:Nat}{m:Nat}[AX]{k Z n g}(u:wD k Z n=some g):DI 27 [BX j] [BH B e k.needs,BM C h k.AZ.Have,AB D i k.AZ.Data,BP E S k.order,ED F o Z.Keys,BJ j k l A f B e C h D i E S,AU A f k.devices,BZ l Z m F o,BN m n G q H r,AL G q n.Data,AY H r n.EN] (λv f7=>∃c5 c6 a0 a b c d z a6 a7 a8 a9 b0 b1 R c3,v=AO g.2.2.2/\f7=[BH a0 a g.1.needs,BM b c g.1.AZ.Have,AB d z g.1.AZ.Data,BP a6 a7 g.1.order,ED a8 a9 g.2.1.Keys,BJ j g.1 l c5 c6 a0 a b c d z a6 a7,AU c5 c6 g.1.devices,BZ l g.2.1 m a8 a9,BN m g.2.2.1 b0 b1 R c3,AL b0 b1 g.2.2.1.Data,AY R c3 g.2.2.1.EN]):=CW.iz O λU f8=>.g 2211 O<|.bd u λf9 J u=>.ck 0 (λ(d1:Unit)=>[0,.s 27 (.bool f9)]) (λd1=>[]) O O (.k 41 O<|.lb 3 5 O<|.n 2 O<|.gs 20 J O (λJ=>ij J▸.bu O O zw) λJ=>.n 3 O<|.CV O O<|.lb 4 5 O<|.CV O O<|.bd J λl3 g0 J=>.cv [1,2] (zCu g0) O<|ij J▸.bu O O zw)<|λd1=>.cb u O (λu=>.g 11 O<|ij u▸.rv O O ⟨A,f,B,e,C,h,D,i,E,S,F,o,G,q,H,r,O,O⟩ (zk 11 5 [6,7,8,9,10] [5,5,5,5,5,5] 0 O)) λu=>.k 411 O<|.lb 4 5 O<|.bd u λl4 g1 u=>.cr 12 [1,2] [] 0 (zMC g1) O λc5 c6=>.v 211 O<|.BF (λ_ U=>U.CZ)<|.bd u λc4 g2 u=>.ct 14 [0] [] 0 (zLj g2) O λa0 a b c=>.n 3 O<|.alloc O O λg3=>.sb 0 0 O<|.u 1 O<|.kl 3 1 O<|.g 112 O<|.cb u O (λu=>.g 11 O<|.kl 0 3 O<|ij u▸.rv O O ⟨A,f,B,e,C,h,D,i,E,S,F,o,G,q,H,r,O,O⟩ (zk 11 5 [6,7,8,9,10] [5,5,5,5,5,5] 0 O)) λu=>.k 211 O<|.lb 0 0 O<|.bd u λM g4 u=>.call (zGc (j:=j) g4) O O O O (zd [5,6,7,8,3,4] [8,8] 0 O)<|by rintro _ _ ⟨d,z,a6,a7,a8,a9,rfl,rfl⟩;exact .nm 17 O<|.n 3 O<|.alloc O O λg5=>.sb 0 0 O<|.u 1121 O<|.cb u O (λu=>.g 11 O<|.pg [4,4] 7 O<|ij u▸.rv O O ⟨A,f,B,e,C,h,D,i,E,S,F,o,G,q,H,r,O,O⟩ (zk 11 5 [6,7,8,9,10] [0,0,5,5,5,5] 0 O)) λu=>.k 11 O<|.lb 0 0 O<|.bd u λg6 g7 u=>.cr 19 [1,2,3] [] 0 (zMl g7) O λb0 b1=>.u 1121 O<|.cb u O (λu=>.g 11 O<|.pg [5,5] 8 O<|ij u▸.rv O O ⟨A,f,B,e,C,h,D,i,E,S,F,o,G,q,H,r,O,O⟩ (zk 11 5 [6,7,8,9,10] [0,0,5,5,5,5] 0 O)) λu=>.g 1121 O<|.cb u O (λu=>.k 21 O<|.bd u λl5 g8 u=>.call (aS (f:=j) g8) O O O O (zd [10,11,12,13] [5,5] 0 O)<|by rintro _ _ ⟨R,c3,g9,h0,h1,h2,h3,h4,h5,h6,rfl,rfl⟩;exact .nm 23 O<|.u 1 O<|.kl 6 12 O<|ij u▸.rv O O ⟨R,c3,g9,h0,h1,h2,h3,h4,h5,h6,F,o,G,q,H,r,O,O⟩ (zk 11 5 [6,7,8,9,10] [4,4,5,5,5,5] 0 O)) λu=>.g 112111 O<|.bd u λK b2 u=>.ck 14 (λ(t:VO)=>[0,8,.s 9 (AO K.2)]) (λt=>[BP t.2.2.2.2.2.2.2.2.1 t.2.2.2.2.2.2.2.2.2 K.1.order,AB t.2.2.2.2.2.2.1 t.2.2.2.2.2.2.2.1 K.1.AZ.Data,BM t.2.2.2.2.1 t.2.2.2.2.2.1 K.1.AZ.Have,BH t.2.2.1 t.2.2.2.1 K.1.needs,AU t.1 t.2.1 K.1.devices,0,BJ j K.1 l t.1 t.2.1 t.2.2.1 t.2.2.2.1 t.2.2.2.2.1 t.2.2.2.2.2.1 t.2.2.2.2.2.2.1 t.2.2.2.2.2.2.2.1 t.2.2.2.2.2.2.2.2.1 t.2.2.2.2.2.2.2.2.2]) O O (.lp b2 (A,f,B,e,C,h,D,i,E,S) 14 (λ(w:zH×Int×Int) (y:VO)=>[0,5,7,8,.s 9 (AO w.2.1),.s 10 (AO w.2.2)]) (λw y=>[BP y.2.2.2.2.2.2.2.2.1 y.2.2.2.2.2.2.2.2.2 w.1.order,AB y.2.2.2.2.2.2.1 y.2.2.2.2.2.2.2.1 w.1.AZ.Data,BM y.2.2.2.2.1 y.2.2.2.2.2.1 w.1.AZ.Have,BH y.2.2.1 y.2.2.2.1 w.1.needs,AU y.1 y.2.1 w.1.devices,0,1,2,3,4,BJ j w.1 l y.1 y.2.1 y.2.2.1 y.2.2.2.1 y.2.2.2.2.1 y.2.2.2.2.2.1 y.2.2.2.2.2.2.1 y.2.2.2.2.2.2.2.1 y.2.2.2.2.2.2.2.2.1 y.2.2.2.2.2.2.2.2.2,7,8,9]) O O O (zl [13,12,11,10,6] 0 O)<|λw ⟨h7,N,b3,b4,b5,b6,b7,b8,b9,c0⟩ l6 d2 h8 x=>.k 512 O<|.lb 1 10 O<|.u 1 O<|.cb x O (λx=>.g 21 O<|.bk<|.k 51 O<|.lb 1 10 O<|.n 1 O<|.bd x λc7 P x=>.ay P O O O (zm 4 O) O O O O O λp Q=>by subst Q;exact .n 1 O<|.QZ (ls:=zC) 13 (λL=>AO c7.Active) P O O (zm 4 O) O (λ_=>O) λh9=>by obtain⟨⟨l7,l8⟩,⟨⟨l9,m0⟩,_⟩⟩:=h9;exact .nm 21 O<|.n 2 O<|.bd x λm1 j0 x=>.shl O O O j0<|.u 1 O<|.kl 0 2 O<|.g 2 O<|.regionF mixed (by kernel_rfl)<|.lb 0 11 O<|.n 3 O<|.lb 1 10 O<|.p O O<|.ay P O O O (zm 4 O) O O O O O λm2 Q=>by cases Q;exact .p O O<|.QZ (ls:=zC) 0 (λL=>.string c7.Name) P O O (zm 4 O) O (λ_=>O) λj1=>by obtain⟨⟨m3,m4⟩,⟨⟨m5,m6⟩,_⟩⟩:=j1;exact .nm 21 O<|.bd x λm7 j2 x=>.cv [14,15] (zOk j2) O<|.uq O<|.kl 0 2 O<|.g 22 O<|.regionF mixed (by kernel_rfl)<|.p O O<|.lb 0 6 O<|.p O O<|.bd x λm8 j3 x=>.II j3 7 O λm9 j4=>.ld j4 0 0 O<|.p O O<|.lb 1 7 O<|.p O O<|.bd x λn0 j5 x=>.II j5 9 O λn1 j6=>.ld j6 0 0 O<|.uq O<|.kl 0 2 O<|.cb x O (λx=>.xy<|.k 1 O<|.bh ((EL p),N,b3,b4,b5,b6,b7,b8,b9,c0) x d2 O O zw) λx=>.k 411 O<|.lb 1 10 O<|.n 1 O<|.ay P O O O (zm 4 O) O O O O O λn2 Q=>by cases Q;exact .QZ (ls:=zC) 0 (λL=>DC (zL c7 L.1.1 L.1.2 L.2.1.1 L.2.1.2)) P O O (zm 4 O) O (λ_=>O) λj7=>by obtain⟨⟨n3,n4⟩,⟨⟨n5,n6⟩,_⟩⟩:=j7;exact .nm 21 O<|.bd x λn7 j8 x=>.ct 23 [0,1] [] 0 (zMf j8) O λn8 n9 o0 o1=>.n 3 O<|.alloc O O λj9=>.sb 0 0 O<|.u 1 O<|.kl 3 2 O<|.g 2 O<|.bd x λo2 c8 x=>.SX (zm 15 O) c8 λo3 d3 k0 d4=>by obtain⟨⟨o4,o5⟩,_⟩:=k0;exact .nm 24 O<|.BU (iN [1,4,9,12,17,21,24,29,32,37,40,45,48,55,56,60,64,71] .nil) _ mixed (by kernel_rfl) (zl [0,0] 1 O)<|.yx 0 2 O<|.yn 1 O<|.yx 0 16 O<|.yn 1 O<|.JF (Rd.ja d4 c8 O O O O O O O) O<|.JF (Rd.load d3 0 O (.head _) O O) O<|.yn 1 O<|.yx 0 16 O<|.yn 1 O<|.JF (Rd.ja d4 c8 O O O O O O O) O<|.yn 1 O<|.JF (Rd.load d3 4 O (.head _) O O) O<|.yn 1 O<|.CU<|.bd x λc9 k1 x=>.ct 26 [3,4,1] [] 0 (zMD k1) O λd5 d6 d7 d8=>.xk (zl [2,2] 3 O)<|.yn 3 O<|.CU<|.sb 0 4 O<|.xk (zl [] 3 O)<|.DF<|.DK<|.pf [0,5,7,8,9,10,11,12] [0,0,0] 4 O O<|.bd x λd9 e1 x=>.SX (zm 15 O) e1 λk2 e2 k3 k4=>by obtain⟨⟨e3,e4⟩,_⟩:=k3;refine .nm 24 O<|.bd x λo6 k5 x=>.bd x λI e5 x=>.bd x λo7 d0 x=>.bd x λe6 b2 x=>.BU (iN [0,4,8,16,20,24,28,32,36,40,46] (.alt (iN [15] (iN [51,52,56,60,65] (iN [71] .nil))) (iN [51,52,56,60] (iN [15,65] (iN [71] .nil))))) _ mixed (by kernel_rfl) (zl [0,0,0,0,0,0,0,0,0,1,1,1,1,1] 2 O)<|.ET (Y:=?JK) 0 (λ(T:IB)=>[0,5,7,8,9,10,.s 137 (FC [DC (zL I.1 T.1 T.2.1 T.2.2.1 T.2.2.2),AO I.2]),.s 141 (AV (EL p) w.1.devices N),.s 142 (AO w.2.2),.s 150 (FC [DC (zL I.1 T.1 T.2.1 T.2.2.1 T.2.2.2),AO I.2]),.s 151 (DC (zL I.1 T.1 T.2.1 T.2.2.1 T.2.2.2)),.s 153 (.pointer (some ⟨p,Int.toNat w.2.2*16,none⟩))]) (λT=>[AB T.1 T.2.1 I.1.Slots.e0.BG.Data,AB T.2.2.1 T.2.2.2 I.1.Slots.e1.BG.Data]) O O (λEF=>?EY) ?EZ;(case EY=>exact .yn 4 O<|.yl 0 2 O<|.yn 1 O<|.yl 0 14 O<|.yn 1 O<|.OB zw (Rd.ja k4 e1 O O O O O O O) O<|.OB zw (Rd.load e2 0 O (.head _) O O) O<|.Bh zw (Q7 k5) O O O O O (za [1] O)<|.IL (.CU<|.lb 1 15 O<|.xk (zl [0,0,0,0,0,0,0,0,0,1,1,1,1,1] 2 O)<|.CU<|.ct 26 [3,4] [] 0 (zEx e5) O λs V W X=>.xk (zl [2,2,2,2,2,2,2,2,2,3,3,3,3,3] 4 O)<|.yn 3 O<|.JF (Rd.LM (n':=16) d0 O O O O O O O) O<|by refine EF _ _ (s,V,W,X) ?_ ?_;exact⟨O,O,O,O,O,O,O,O,O,O,O,O,trivial⟩;exactλ_ U=>U)<|.CU<|.ct 26 [3,4] [] 0 (zEx e5) O λs V W X=>.xk (zl [2,2,2,2,2,2,2,2,2,3,3,3,3,3] 4 O)<|.yn 3 O<|.CU<|.lb 1 17 O<|.xk (zl [2,2,2,2,2,2,2,2,2,3,3,3,3,3] 4 O)<|.JF (Rd.LM (n':=16) d0 O O O O O O O) O<|by refine EF _ _ (s,V,W,X) ?_ ?_;exact⟨O,O,O,O,O,O,O,O,O,O,O,O,trivial⟩;exactλ_ U=>U);case EZ=>exactλ⟨s,V,W,X⟩=>.nm 26 rfl<|.CU<|.Gf (ls:=zC) 0 (λL=>((s,V),((W,X),()))) d0 b2 rfl rfl (IQ 11 rfl) rfl rfl rfl rfl (λ_=>rfl) (λ_=>⟨(zm 2 rfl),(zm 3 rfl),trivial⟩)<|by exact .ss 141 (wM b2)<|.BF (F':=.res (yQ (zW zC) 47 (some ⟨p,0,none⟩) N e6)::.ro (FB BQ s V I.1.Slots.e0.BG.Data)::.ro (FB BQ W X I.1.Slots.e1.BG.Data)::.ro (gN k2 e2 (xQ d9 e3 e4))::.ro (FB BQ e3 e4 d9.Data)::.res (Box j9 47 (zL c9.1 d5 d6 d7 d8))::.ro (FB BQ d5 d6 c9.1.Slots.e0.BG.Data)::.ro (FB BQ d7 d8 c9.1.Slots.e1.BG.Data)::.ro (FB zU b9 c0 w.1.order)::.ro (FB BQ b7 b8 w.1.AZ.Data)::.ro (FB yC b5 b6 w.1.AZ.Have)::.ro (FB zP b3 b4 w.1.needs)::.res (zJ zU 3 b0 b1 g6.1)::.res (Box g5 129 [.slice d M.1.Now.length z,.slice a6 M.1.Next.length a7,.slice a8 M.1.Needs.length a9])::.ro (FB zK d z M.1.Now)::.ro (FB zK a6 a7 M.1.Next)::.ro (FB zP a8 a9 M.1.Needs)::.res (Box j 151 [.pointer (jJ w.1.store l),.slice (some ⟨p,0,none⟩) e6.length N,.slice b3 w.1.needs.length b4,.int .i64 w.1.phase,.int .i64 w.1.AZ.Size,.int .i64 w.1.AZ.Part,.slice b5 w.1.AZ.Have.length b6,.slice b7 w.1.AZ.Data.length b8,.int .i64 w.1.mask,.slice b9 w.1.order.length c0])::.res (Box g3 61 [.slice a0 c4.1.BA.length a,.slice b c4.1.Needs.length c])::.ro (Sl (zW xB) a0 a c4.1.BA)::.ro (FB zP b c c4.1.Needs)::.ro (Sl (zW zQ) F o Z.Keys)::.res (Box l 207 (zX Z m F o))::.res (Box m 142 (yE n G q H r))::.res (zJ BQ 5 G q n.Data)::.res (zJ zU 3 H r n.EN)::f8) (λ_ U=>by rw[uC b2];exact U)<|.xk (zl [3,3,3,3,3,3,3,3,3,3,3,3,3,3] 4 O)<|.DF<|.bn<|.kl 1 7 O<|.k 1 O<|.bh ((EL p),N,b3,b4,b5,b6,b7,b8,b9,c0) x d2 O O (zl [1,1,1,1] 0 O)) λx=>.xx<|hy x h8▸.hE (h7,N,b3,b4,b5,b6,b7,b8,b9,c0) O (zl [0,0,0,0,0,0,4] 7 O))<|λ⟨e7,e8,e9,f0,k6,k7,k8,k9,l0,l1⟩=>.k 51 O<|.sb 8 6 O<|.v 3121 O<|.BF (λ_ U=>(U.sl [6] 0 O).CZ)<|.bd u λo8 l2 u=>.call (zAP (l:=j) (m:=l) (o:=m) l2) O O O O (zd [10,9,8,7,6,11] [1,5,6,6,6,6] 0 O)<|by rintro _ _ ⟨f1,f2,f3,f4,f5,f6,rfl,rfl⟩;exact .nm 13 O<|.u 1 O<|.kl 12 1 O<|.g 11 O<|.cb u O (λu=>.g 11 O<|.kl 7 1 O<|ij u▸.rv O O ⟨e7,e8,e9,f0,k6,k7,k8,k9,l0,l1,f1,f2,f3,f4,f5,f6,O,O⟩ (zk 11 5 [10,9,8,7,6] [1,1,1,1,1,1] 0 O)) λu=>.k 811 O<|.sb 3 1 O<|.n 2 O<|.sb 9 0 O<|.n 2 O<|.sb 4 0 O<|.u 1 O<|.kl 8 3 O<|.g 11 O<|.BF (λ_ U=>U.BR (DN yC))<|.BF (λ_ U=>U.BR (DN BQ))<|ij u▸.rv O O ⟨e7,e8,e9,f0,none,0,none,0,b0,b1,f1,f2,f3,f4,f5,f6,O,O⟩ (zk 11 5 [10,7,6,9,8] [2,3,3,3,3,3] 0 O)
def qZ[AX](a:zH):Option Int:=
 bnd (zZ (τ:=Int⊕Unit) (λ(f:Int)=>bif decide (f<(a.order.length:Int))then bnd (CO a.order f) λe=>bnd (vY a e) λh=>bif !h then bnd (CO a.order f) λi=>some (.done (.inl i))else(some (.next (wrap .i64 (f+1))))else some (.done (.inr ()))) 0) λj=>xX j λS=>some 0
def zFz{f:Nat}[AX]{k p}(l:qZ k=some p):DI 89 [BX f] [BH B h k.needs,BM C i k.AZ.Have,AB D j k.AZ.Data,BP E o k.order,BJ f k m A e B h C i D j E o,AU A e k.devices] (λv T=>v=AO p/\T=[BJ f k m A e B h C i D j E o,AU A e k.devices]):=CW.iz O λL M=>.g 11211 O<|.bd l λU Y l=>.cj 0 (λ(r:Unit) (w:Unit)=>[]) (λr w=>[]) O O (λr=>U=.inr r) (.lp Y () 0 (λ(x:Int) (y:Unit)=>[0,.s 3 (AO x)]) (λx y=>[]) O O O zw<|λx y N i1 t q=>.k 512 O<|.lb 9 4 O<|.u 1 O<|.cb q O (λq=>.g 21 O<|.bk<|.k 51 O<|.lb 9 4 O<|.n 1 O<|.bd q λP F q=>.II F 3 O λQ G=>.ld G 0 0 O<|.bd q λR H q=>.cq 7 [3,4,5,6] [5,5] 0 (kN (f:=f) H) O<|.u 1 O<|.kl 2 1 O<|.cb q O (λq=>.k 41 O<|.lb 9 0 O<|.n 1 O<|.bd q λS I q=>.II I 5 O λg J=>.ld J 0 0 O<|.u 1 O<|.kl 0 1 O<|hz q t l▸.rv O O ⟨O,O⟩ (zl [0,0] 4 O)) λq=>.sn<|.k 1 O<|.bh () q i1 O O (zl [2,2,2,2] 0 O)) λq=>.xx<|.EK () () (hxd q t) trivial zw)<|λr w K=>by subst K;have l:=KF l;exact .g 11 O<|ij l▸.rv O O ⟨O,O⟩ (zl [] 4 O)
def oC[AX](a:zH):Option Int:=
 bnd (zZ (τ:=Int⊕Unit) (λ(f:Int)=>bif decide (f>=0)then bnd (CO a.order f) λe=>bnd (vY a e) λh=>bif h then bnd (CO a.order f) λi=>some (.done (.inl i))else(some (.next (wrap .i64 (f-1))))else some (.done (.inr ()))) (wrap .i64 ((a.order.length:Int)-1))) λj=>xX j λS=>some 0
def zFS{f:Nat}[AX]{k p}(l:oC k=some p):DI 90 [BX f] [BH B h k.needs,BM C i k.AZ.Have,AB D j k.AZ.Data,BP E o k.order,BJ f k m A e B h C i D j E o,AU A e k.devices] (λv T=>v=AO p/\T=[BJ f k m A e B h C i D j E o,AU A e k.devices]):=CW.iz O λL M=>.k 41211 O<|.lb 9 4 O<|.u 1 O<|.bd l λU Y l=>.cj 0 (λ(r:Unit) (w:Unit)=>[]) (λr w=>[]) O O (λr=>U=.inr r) (.lp Y () 0 (λ(x:Int) (y:Unit)=>[0,.s 3 (AO x)]) (λx y=>[]) O O O zw<|λx y N i1 t q=>.g 112 O<|.cb q O (λq=>.g 21 O<|.bk<|.k 51 O<|.lb 9 4 O<|.n 1 O<|.bd q λP F q=>.II F 3 O λQ G=>.ld G 0 0 O<|.bd q λR H q=>.cq 7 [3,4,5,6] [5,5] 0 (kN (f:=f) H) O<|.u 1 O<|.kl 2 1 O<|.cb q O (λq=>.k 41 O<|.lb 9 0 O<|.n 1 O<|.bd q λS I q=>.II I 5 O λg J=>.ld J 0 0 O<|.u 1 O<|.kl 0 1 O<|hz q t l▸.rv O O ⟨O,O⟩ (zl [0,0] 4 O)) λq=>.sn<|.k 1 O<|.bh () q i1 O O (zl [2,2,2,2] 0 O)) λq=>.xx<|.EK () () (hxd q t) trivial zw)<|λr w K=>by subst K;have l:=KF l;exact .g 11 O<|ij l▸.rv O O ⟨O,O⟩ (zl [] 4 O)
def dD[AX](a:zA):Option (zA×Int):=
 bnd (qU a) λe=>bif(e !=0)then some ((⟨⟨#[]⟩,(⟨(⟨(⟨⟨#[]⟩,(⟨0,0,0⟩:zS),[]⟩:zO),0⟩:yJ),(⟨(⟨⟨#[]⟩,(⟨0,0,0⟩:zS),[]⟩:zO),0⟩:yJ)⟩:(sW yJ)),0,0,false⟩:zA),e)else bnd (CO [a.Slots.e0,a.Slots.e1] (wrap .i64 (1-a.Active))) λh=>bnd (oW h a.Name) λi=>bif !i then some ((⟨⟨#[]⟩,(⟨(⟨(⟨⟨#[]⟩,(⟨0,0,0⟩:zS),[]⟩:zO),0⟩:yJ),(⟨(⟨⟨#[]⟩,(⟨0,0,0⟩:zS),[]⟩:zO),0⟩:yJ)⟩:(sW yJ)),0,0,false⟩:zA),46)else bnd (sQ a) λf=>some ((⟨f.Name,f.Slots,f.Active,f.Running,true⟩:zA),0)
def zLB[AX]{d g}(c:dD d=some g):DI 91 [DC (zL d A f B e)] [AB A f d.Slots.e0.BG.Data,AB B e d.Slots.e1.BG.Data] (λv r=>∃S o i j,v=FC [DC (zL g.1 S o i j),AO g.2]/\r=[AB S o g.1.Slots.e0.BG.Data,AB i j g.1.Slots.e1.BG.Data]):=CW.iz O λh C=>.k 1 O<|.box O O λD=>.alloc O O λE=>.v 121 O<|.lb 0 1 O<|.bd c λF x c=>.cv [2,3] (fC x) O<|.u 111 O<|.cb c O (λc=>.k 31 O<|.sb 0 0 O<|.u 1 O<|.kl 1 3 O<|.BF (λ_ h=>h.BR (DN BQ))<|.BF (λ_ h=>h.BR (DN BQ))<|ij c▸.rt O YQ (.cell O KN O (.tmp O .nil)) O ⟨none,0,none,0,O,O⟩ (zk 2 3 [0,0] [] 0 O)) λc=>.g 221 O<|.regionF mixed (by kernel_rfl)<|.p O O<|.lb 13 1 O<|.n 2 O<|.bd c λs m c=>.Ae (sz:=6) m O O O O O O O O<|.Bj (ls:=rH) 0 [.string d.Name] [AO d.Active,AO d.Running,.bool d.CX] [(d.Slots.e0,((A,f),())),(d.Slots.e1,((B,e),()))] (λq=>DC (qM s q.1.1 q.1.2)) m O O GH O O O ⟨(zm 2 O),(zm 3 O),trivial⟩ O (λ_=>O) λt=>by obtain⟨⟨S,o⟩,_⟩:=t;exact .nm 5 O<|.p O O<|.lb 0 2 O<|.bd c λG w c=>.cv [0] (dA w) O<|.uq O<|.kl 0 1 O<|.cb c O (λc=>.k 21 O<|.sb 0 0 O<|.u 1 O<|.kl 1 3 O<|.BF (λ_ h=>h.BR (DN BQ))<|.BF (λ_ h=>h.BR (DN BQ))<|ij c▸.rt O YQ (.cell O KN O (.tmp O .nil)) O ⟨none,0,none,0,O,O⟩ (zk 2 3 [0,0] [] 0 O)) λc=>.k 11 O<|.lb 0 1 O<|.bd c λH y c=>.ct 6 [2,3] [] 0 (oV y) O λi j T U=>.sb 0 3 O<|.u 1 O<|.kl 4 2 O<|.k 21 O<|.sb 15 0 O<|.v 11 O<|.lb 0 0 O<|.sb 0 3 O<|.u 1 O<|.kl 1 1 O<|ij c▸.rt O YQ (.cell O (.head _) O (.tmp O .nil)) O ⟨i,j,T,U,O,O⟩ (zk 2 3 [1,2] [] 0 O)
def gW[AX](b:zA):Option (zA×Int):=
 bnd (pT b) λe=>bif !e then some ((⟨⟨#[]⟩,(⟨(⟨(⟨⟨#[]⟩,(⟨0,0,0⟩:zS),[]⟩:zO),0⟩:yJ),(⟨(⟨⟨#[]⟩,(⟨0,0,0⟩:zS),[]⟩:zO),0⟩:yJ)⟩:(sW yJ)),0,0,false⟩:zA),1)else bif b.CX then some ((⟨⟨#[]⟩,(⟨(⟨(⟨⟨#[]⟩,(⟨0,0,0⟩:zS),[]⟩:zO),0⟩:yJ),(⟨(⟨⟨#[]⟩,(⟨0,0,0⟩:zS),[]⟩:zO),0⟩:yJ)⟩:(sW yJ)),0,0,false⟩:zA),46)else bnd (sQ b) λf=>some ((⟨f.Name,f.Slots,f.Running,f.Running,f.CX⟩:zA),0)
def zDC[AX]{n k}(c:gW n=some k):DI 93 [DC (zL n A f B e)] [AB A f n.Slots.e0.BG.Data,AB B e n.Slots.e1.BG.Data] (λv m=>∃i j S o,v=FC [DC (zL k.1 i j S o),AO k.2]/\m=[AB i j k.1.Slots.e0.BG.Data,AB S o k.1.Slots.e1.BG.Data]):=CW.iz O λh x=>.k 1 O<|.box O O λw=>.alloc O O λy=>.u 21 O<|.bk<|.k 1 O<|.lb 0 1 O<|.bd c λs q c=>.cv [2,3] (gH q) O<|.u 1 O<|.cb c O (λc=>.k 21 O<|.sb 0 0 O<|.u 1 O<|.kl 1 3 O<|.BF (λ_ h=>h.BR (DN BQ))<|.BF (λ_ h=>h.BR (DN BQ))<|ij c▸.rt O YR (.cell O KN O (.tmp O .nil)) O ⟨none,0,none,0,O,O⟩ (zk 2 3 [0,0] [] 0 O)) λc=>.k 21 O<|.lb 15 1 O<|.u 1 O<|.cb c O (λc=>.k 21 O<|.sb 0 0 O<|.u 1 O<|.kl 1 3 O<|.BF (λ_ h=>h.BR (DN BQ))<|.BF (λ_ h=>h.BR (DN BQ))<|ij c▸.rt O YR (.cell O KN O (.tmp O .nil)) O ⟨none,0,none,0,O,O⟩ (zk 2 3 [0,0] [] 0 O)) λc=>.sn<|.k 1 O<|.lb 0 1 O<|.bd c λt r c=>.ct 6 [2,3] [] 0 (oV r) O λi j S o=>.sb 0 3 O<|.u 1 O<|.kl 4 2 O<|.k 21 O<|.lb 14 0 O<|.n 1 O<|.sb 13 0 O<|.v 11 O<|.lb 0 0 O<|.sb 0 3 O<|.u 1 O<|.kl 1 1 O<|ij c▸.rt O YR (.cell O (.head _) O (.tmp O .nil)) O ⟨i,j,S,o,O,O⟩ (zk 2 3 [1,2] [] 0 O)
def oD[AX](a:zH)(j:Int)(d:zG)(i:yB):Option (zH×zG×yB×Int):=
 bif decide (j>0)then bnd (rM a 3 a.order d i) λf=>bif(f.2.2 !=0)then some (a,f.1,f.2.1,f.2.2)else(some ((⟨a.store,a.devices,a.needs,3,a.AZ,a.mask,a.order⟩:zH),f.1,f.2.1,0))else bnd (vZ a.store) λh=>bnd (xL d ([(⟨32,[],true⟩:zF)]) i) λe=>bif(e.2.2 !=0)then some (a,e.1,e.2.1,e.2.2)else some ((⟨a.store,a.devices,a.needs,0,a.AZ,a.mask,[]⟩:zH),e.1,e.2.1,0)
def zGw{j:Nat}{l:Nat}{m:Nat}[AX]{a R Q g p}(u:oD a R Q g=some p):DI 95 [BX j,AO R] [BH B e a.needs,BM C h a.AZ.Have,AB D i a.AZ.Data,BP E S a.order,ED F o Q.Keys,BJ j a l A f B e C h D i E S,AU A f a.devices,BZ l Q m F o,BN m g G q H r,AL G q g.Data,AY H r g.EN] (λv W=>∃s t w y T U I J K L M N P k n V,v=AO p.2.2.2/\W=[BH w y p.1.needs,BM T U p.1.AZ.Have,AB I J p.1.AZ.Data,BP K L p.1.order,ED M N p.2.1.Keys,BJ j p.1 l s t w y T U I J K L,AU s t p.1.devices,BZ l p.2.1 m M N,BN m p.2.2.1 P k n V,AL P k p.2.2.1.Data,AY n V p.2.2.1.EN]):=CW.iz O λx a0=>.g 11211 O<|.cb u O (λu=>.k 512 O<|.lb 9 5 O<|.bd u λb X u=>.call (zAP (l:=j) (m:=l) (o:=m) X) O O O O (zd [6,7,8,9,9,10] [5,5,5,5,5,5] 0 O)<|by rintro _ _ ⟨s,t,w,y,T,U,rfl,rfl⟩;exact .nm 12 O<|.u 1 O<|.kl 11 1 O<|.g 11 O<|.cb u O (λu=>.g 11 O<|ij u▸.rv O O ⟨A,f,B,e,C,h,D,i,E,S,s,t,w,y,T,U,O,O⟩ (zk 11 5 [7,8,9,10,6] [1,1,1,1,1,1] 0 O)) λu=>.k 411 O<|.sb 3 1 O<|.u 111 O<|ij u▸.rv O O ⟨A,f,B,e,C,h,D,i,E,S,s,t,w,y,T,U,O,O⟩ (zk 11 5 [7,8,9,10,6] [0,1,1,1,1,1] 0 O)) λu=>.k 4121 O<|.lb 0 5 O<|.n 1 O<|.bS O λc=>.bd u λd Y u=>by exact .ss 24 (xY Y)<|.BF (λ_ x=>x.BR (DN BQ))<|.BF (λ_ x=>Sat.jq (ls:=zQ) (e:=205) [((⟨32,[],true⟩:zF),((none,0),()))] O O O ⟨(.head _),trivial⟩ (x.sl [1] 0 O))<|.BF (λ_ x=>x.JW)<|.bd u λz Z u=>.call (jL (e:=l) (f:=m) Z) O O O O (zd [10,4] [9,9,9,9] 0 O)<|by rintro _ _ ⟨I,J,K,L,M,N,rfl,rfl⟩;exact .nm 14 O<|.u 1 O<|.pg [0,0,0,0,0,2,2,2,2] 3 O<|.g 11 O<|.cb u O (λu=>.g 11 O<|ij u▸.rv O O ⟨A,f,B,e,C,h,D,i,E,S,I,J,K,L,M,N,O,O⟩ (zk 11 5 [7,8,9,10,6] [9,9,1,1,1,1] 0 O)) λu=>.k 511 O<|.sb 3 9 O<|.n 2 O<|.sb 9 0 O<|.u 1 O<|.kl 9 1 O<|.g 11 O<|.BF (λ_ x=>x.BR (DN zU))<|ij u▸.rv O O ⟨A,f,B,e,C,h,D,i,none,0,I,J,K,L,M,N,O,O⟩ (zk 11 5 [8,9,10,6,7] [1,9,2,2,2,2] 0 O)
def vA[AX](a:zH)(C:Bool)(A:zG)(B:yB):Option (zH×zG×yB×Int×Int):=
 bnd (uX a) λk=>bnd (bif(a.phase==2)then bnd (qZ a) λo=>some (.inr o)else bif(a.phase==3)then bnd (oC a) λm=>some (.inr m)else some (.inl (a,A,B,0,46)):Option ((zH×zG×yB×Int×Int)⊕Int)) λn=>xX n λf=>bnd (CO a.devices f) λq=>bnd (dD q) λS=>bif(S.2 !=0)then some (a,A,B,0,S.2)else bnd (lS S.1) λr=>bnd (CO a.devices f) λT=>bnd (uF a.devices f r) λh=>bnd (bnd (bif C then some true else some (a.phase==3):Option Bool) λx=>bif x then bnd (CO h f) λw=>bnd (gW w) λs=>bnd (CO h f) λU=>bnd (uF h f s.1) λt=>bnd (vP (⟨a.store,t,a.needs,a.phase,a.AZ,a.mask,a.order⟩:zH) A B) λi=>some (i.2.2.2,i.1,i.2.1,i.2.2.1)else bnd (CO h f) λu=>bnd (lS u) λv=>bnd (CO h f) λY=>bnd (uF h f v) λy=>bnd (oD (⟨a.store,y,a.needs,a.phase,a.AZ,a.mask,a.order⟩:zH) k A B) λj=>some (j.2.2.2,j.1,j.2.1,j.2.2.1):Option (Int×zH×zG×yB)) λe=>bif(e.1 !=0)then some (e.2.1,e.2.2.1,e.2.2.2,0,e.1)else some (e.2.1,e.2.2.1,e.2.2.2,f,0)
end
variable{i4 i7:Nat}
section
def zGE{j:Nat}{l:Nat}{m:Nat}[AX]{p e2 n k g}(t:vA p e2 n k=some g):DI 28 [BX j,.bool e2] [BH B e p.needs,BM C h p.AZ.Have,AB D i p.AZ.Data,BP E S p.order,ED F o n.Keys,BJ j p l A f B e C h D i E S,AU A f p.devices,BZ l n m F o,BN m k G q H r,AL G q k.Data,AY H r k.EN] (λv g2=>∃c9 d0 d1 d2 b4 b5 b6 b7 M N P s b8 b9 c0 Q,v=FC [AO g.2.2.2.1,AO g.2.2.2.2]/\g2=[BH d1 d2 g.1.needs,BM b4 b5 g.1.AZ.Have,AB b6 b7 g.1.AZ.Data,BP M N g.1.order,ED P s g.2.1.Keys,BJ j g.1 l c9 d0 d1 d2 b4 b5 b6 b7 M N,AU c9 d0 g.1.devices,BZ l g.2.1 m P s,BN m g.2.2.1 b8 b9 c0 Q,AL b8 b9 g.2.2.1.Data,AY c0 Q g.2.2.1.EN]):=CW.iz O λw d3=>.k 2111 O<|by exact .bd t λm0 g3 t=>.cq 11 [2,3,4,5] [5,5] 0 (aX (f:=j) g3) O<|.u 2111 O<|by exact .bd t λg4 K t=>by exact .cj 0 (λ(I:Int) (e3:Unit)=>[0,1,6,.s 7 (AO I)]) (λI e3=>[]) O O (λI=>g4=.inr I) (.k 41 O<|.lb 3 0 O<|.u 1 O<|.bk<|.g 11 O<|by exact .cb K O (λK=>.k 21 O<|by exact .bd K λg5 g6 K=>.cq 11 [2,3,4,5] [] 0 (zFz (f:=j) g6) O<|.n 1 O<|.done<|.KW<|ij K▸(.th<|.EK g5 () O (zb O) zw)) λK=>.g 11 O<|by exact .cb K O (λK=>.k 21 O<|by exact .bd K λg7 g8 K=>.cq 11 [2,3,4,5] [] 0 (zFS (f:=j) g8) O<|.n 1 O<|.done<|.KW<|ij K▸(.th<|.EK g7 () O (zb O) zw)) λK=>.g 11 O<|by cases K;have t:some _=some _:=t;exact ij t▸.rv O O ⟨A,f,B,e,C,h,D,i,E,S,F,o,G,q,H,r,O,O⟩ (zk 11 5 [6,7,8,9,10] [0,0,5,5,5,5] 0 O))<|λI e3 g9=>by subst g9;have t:=KF t;exact .k 41 O<|.lb 1 0 O<|.n 1 O<|by exact .bd t λh0 e4 t=>.ay e4 O O O GH O O O O O λY h1=>by subst h1;exact .QZ (ls:=zC) 0 (λT=>DC (zL h0 T.1.1 T.1.2 T.2.1.1 T.2.1.2)) e4 O O GH O (λ_=>O) λh2=>by obtain⟨⟨c9,d0⟩,⟨⟨d1,d2⟩,_⟩⟩:=h2;exact .nm 13 O<|by exact .bd t λd4 h3 t=>.ct 15 [0,1] [] 0 (zLB h3) O λb4 b5 b6 b7=>.n 3 O<|.alloc O O λh4=>.sb 0 0 O<|.u 1 O<|.kl 3 2 O<|.g 112 O<|by exact .cb t O (λt=>.g 11 O<|.kl 0 3 O<|ij t▸.rv O O ⟨(EL Y),f,B,e,C,h,D,i,E,S,F,o,G,q,H,r,O,O⟩ (zk 11 5 [6,7,8,9,10] [0,0,5,5,5,5] 0 O)) λt=>by refine .sk<|.pr [0,1,6,7,8] O<|.seq<|.bd t λR e5 t=>.bd t λm1 d5 t=>.bd t λJ d6 t=>.BU (iN [0,4,8,16,20] (.alt (iN [15] (iN [27,29] (iN [35] .nil))) (iN [27] (iN [15,29] (iN [35] .nil))))) _ mixed (by kernel_rfl) (zl [0,0,0] 2 O)<|.ET (Y:=?JK) 0 (λ(x:IB)=>[0,1,6,7,.s 41 (AV (EL Y) p.devices f),.s 42 (AO I),.s 44 (DC (zL R x.1 x.2.1 x.2.2.1 x.2.2.2)),.s 45 (.pointer (some ⟨Y,Int.toNat I*16,none⟩))]) (λx=>[AB x.1 x.2.1 R.Slots.e0.BG.Data,AB x.2.2.1 x.2.2.2 R.Slots.e1.BG.Data]) O O (λEF=>?EY) ?EZ;(case EY=>exact .yn 4 O<|.yl 0 0 O<|.IL (.CU<|.lb 1 3 O<|.xk (zl [0,0,0] 2 O)<|.CU<|.ct 16 [1,2] [] 0 (iI e5) O λM N P s=>.xk (zl [2,2,2] 4 O)<|.JF (Rd.LM (n':=16) d5 O O O O O O O) O<|by refine EF _ _ (M,N,P,s) ?_ ?_;exact⟨O,O,O,O,O,O,O,O,trivial⟩;exactλ_ w=>w)<|.CU<|.ct 16 [1,2] [] 0 (iI e5) O λM N P s=>.xk (zl [2,2,2] 4 O)<|.CU<|.lb 1 5 O<|.xk (zl [2,2,2] 4 O)<|.JF (Rd.LM (n':=16) d5 O O O O O O O) O<|by refine EF _ _ (M,N,P,s) ?_ ?_;exact⟨O,O,O,O,O,O,O,O,trivial⟩;exactλ_ w=>w);case EZ=>exactλ⟨M,N,P,s⟩=>.nm 16 rfl<|.CU<|.Gf (ls:=zC) 0 (λT=>((M,N),((P,s),()))) d5 d6 rfl rfl (IQ 6 rfl) rfl rfl rfl rfl (λ_=>rfl) (λ_=>⟨(zm 2 rfl),(zm 3 rfl),trivial⟩)<|by exact .ss 41 (wM d6)<|.BF (F':=.res (yQ (zW zC) 47 (some ⟨Y,0,none⟩) f J)::.ro (FB BQ M N R.Slots.e0.BG.Data)::.ro (FB BQ P s R.Slots.e1.BG.Data)::.res (Box h4 47 (zL d4.1 b4 b5 b6 b7))::.ro (FB BQ b4 b5 d4.1.Slots.e0.BG.Data)::.ro (FB BQ b6 b7 d4.1.Slots.e1.BG.Data)::.res (Box j 151 [.pointer (jJ p.store l),.slice (some ⟨Y,0,none⟩) J.length f,.slice B p.needs.length e,.int .i64 p.phase,.int .i64 p.AZ.Size,.int .i64 p.AZ.Part,.slice C p.AZ.Have.length h,.slice D p.AZ.Data.length i,.int .i64 p.mask,.slice E p.order.length S])::.ro (FB zP B e p.needs)::.ro (FB yC C h p.AZ.Have)::.ro (FB BQ D i p.AZ.Data)::.ro (FB zU E S p.order)::.ro (Sl (zW zQ) F o n.Keys)::.res (Box l 207 (zX n m F o))::.res (Box m 142 (yE k G q H r))::.res (zJ BQ 5 G q k.Data)::.res (zJ zU 3 H r k.EN)::d3) (λ_ w=>by rw[uC d6];exact w)<|.xk (zl [3,3,3] 4 O)<|.DF<|.tn<|.kl 1 5 O<|.g 2 O<|by exact .bd t λL U t=>by exact .ck 11 (λ(y:aCG)=>[7,.s 9 (AO L.1)]) (λy=>[AY y.2.2.2.2.2.2.2.2.2.2.2.2.2.2.1 y.2.2.2.2.2.2.2.2.2.2.2.2.2.2.2 L.2.2.2.EN,AL y.2.2.2.2.2.2.2.2.2.2.2.2.1 y.2.2.2.2.2.2.2.2.2.2.2.2.2.1 L.2.2.2.Data,ED y.2.2.2.2.2.2.2.2.2.2.1 y.2.2.2.2.2.2.2.2.2.2.2.1 L.2.2.1.Keys,BP y.2.2.2.2.2.2.2.2.1 y.2.2.2.2.2.2.2.2.2.1 L.2.1.order,AB y.2.2.2.2.2.2.1 y.2.2.2.2.2.2.2.1 L.2.1.AZ.Data,BM y.2.2.2.2.1 y.2.2.2.2.2.1 L.2.1.AZ.Have,BH y.2.2.1 y.2.2.2.1 L.2.1.needs,AU y.1 y.2.1 L.2.1.devices,BJ j L.2.1 l y.1 y.2.1 y.2.2.1 y.2.2.2.1 y.2.2.2.2.1 y.2.2.2.2.2.1 y.2.2.2.2.2.2.1 y.2.2.2.2.2.2.2.1 y.2.2.2.2.2.2.2.2.1 y.2.2.2.2.2.2.2.2.2.1,BZ l L.2.2.1 m y.2.2.2.2.2.2.2.2.2.2.1 y.2.2.2.2.2.2.2.2.2.2.2.1,BN m L.2.2.2 y.2.2.2.2.2.2.2.2.2.2.2.2.1 y.2.2.2.2.2.2.2.2.2.2.2.2.2.1 y.2.2.2.2.2.2.2.2.2.2.2.2.2.2.1 y.2.2.2.2.2.2.2.2.2.2.2.2.2.2.2]) O O (.g 2 O<|by exact .bd U λh5 c3 U=>by exact .co 0 [0,6,7,.s 53 (.bool h5)] [] O O (.k 31 O<|by exact .gs 47 c3 O (λc3=>ij c3▸.bu O O zw) λc3=>.n 3 O<|.CV O O<|.lb 3 1 O<|ij c3▸.bu O O zw)<|by exact .cb U O (λU=>by refine .seq<|.bd U λu c5 U=>.bd U λV e6 U=>.bd U λm2 d7 U=>.bd U λe7 c6 U=>.BU (iN [0,4,8,16,20,24,28,36] (.alt (iN [15] (iN [35,40] (iN [47] (iN [51,52,56,60,65] (iN [71] .nil))))) (iN [35,40] (.alt (iN [15] (iN [47] (iN [51,52,56,60,65] (iN [71] .nil)))) (iN [47] (.alt (iN [15] (iN [51,52,56,60,65] (iN [71] .nil))) (iN [51,52,56,60] (iN [15,65] (iN [71] .nil))))))))) _ mixed (by kernel_rfl) (zl [] 2 O)<|.ET (Y:=?aCk) 0 (λ(x:kz)=>[0,7,.s 54 (FC [DC (zL V.1 x.1 x.2.1 x.2.2.1 x.2.2.2.1),AO V.2]),.s 58 (AV (EL Y) J f),.s 59 (AO I),.s 63 (AV (EL Y) J f),.s 64 (AO I),.s 67 (FC [DC (zL V.1 x.1 x.2.1 x.2.2.1 x.2.2.2.1),AO V.2]),.s 68 (DC (zL V.1 x.1 x.2.1 x.2.2.1 x.2.2.2.1)),.s 70 (.pointer (some ⟨Y,Int.toNat I*16,none⟩))]) (λx=>[AB x.1 x.2.1 V.1.Slots.e0.BG.Data,AB x.2.2.1 x.2.2.2.1 V.1.Slots.e1.BG.Data,AB x.2.2.2.2.1 x.2.2.2.2.2.1 u.Slots.e0.BG.Data,AB x.2.2.2.2.2.2.1 x.2.2.2.2.2.2.2 u.Slots.e1.BG.Data]) O O (λEh=>?Nw) ?Ny;(case Nw=>exact by refine .ET (Y:=?aCl) 0 (λ(x:IB)=>[0,7,.s 58 (AV (EL Y) J f),.s 59 (AO I),.s 63 (AV (EL Y) J f),.s 64 (AO I),.s 66 (DC (zL u x.1 x.2.1 x.2.2.1 x.2.2.2))]) (λx=>[AB x.1 x.2.1 u.Slots.e0.BG.Data,AB x.2.2.1 x.2.2.2 u.Slots.e1.BG.Data]) O O (λEi=>?Nz) ?Oa;(case Nz=>exact by refine .ET (Y:=?aCm) 0 (λ(x:Unit)=>[0,7,.s 58 (AV (EL Y) J f),.s 59 (AO I),.s 63 (AV (EL Y) J f),.s 64 (AO I),.s 65 (.pointer (some ⟨Y,Int.toNat I*16,none⟩))]) (λx=>[]) O O (λEj=>?Ob) ?Oc;(case Ob=>exact .yn 8 O<|.IL (.CU<|.lb 1 1 O<|.xk (zl [] 2 O)<|.CU<|.lb 1 1 O<|.xk (zl [] 2 O)<|.OB zw (Rd.LM (n':=16) c5 O O O O O O O) O<|by refine Ej _ _ () ?_ ?_;exact⟨O,O,O,O,O,O,O,trivial⟩;exactλ_ w=>w)<|.CU<|.lb 1 1 O<|.xk (zl [] 2 O)<|.OB zw (Rd.LM (n':=16) c5 O O O O O O O) O<|.IL (.CU<|.lb 1 1 O<|.xk (zl [] 2 O)<|by refine Ej _ _ () ?_ ?_;exact⟨O,O,O,O,O,O,O,trivial⟩;exactλ_ w=>w)<|.CU<|.QZ (ls:=zC) 0 (λT=>DC (zL u T.1.1 T.1.2 T.2.1.1 T.2.1.2)) c5 O O (.head _) O (λ_=>O) λd8=>by obtain⟨⟨X,Z⟩,⟨⟨a0,a⟩,_⟩⟩:=d8;exact .nm 13 O<|.xk (zl [] 4 O)<|.IL (.CU<|.lb 1 3 O<|.xk (zl [] 4 O)<|by refine Ei _ _ (X,Z,a0,a) ?_ ?_;exact⟨O,O,O,O,O,O,O,trivial⟩;exactλ_ w=>w)<|.CU<|.ct 15 [0,1] [] 0 (zDC e6) O λa6 a7 a8 a9=>.xk (zl [] 6 O)<|.yn 3 O<|.CU<|.lb 1 5 O<|.xk (zl [] 6 O)<|.JF (Rd.LM (n':=16) d7 O O O O O O O) O<|by refine Eh _ _ (a6,a7,a8,a9,X,Z,a0,a) ?_ ?_;exact⟨O,O,O,O,O,O,O,O,O,O,trivial⟩;exactλ_ w=>w);case Oc=>exactλ⟨⟩=>.nm 11 rfl<|.CU<|.QZ (ls:=zC) 0 (λT=>DC (zL u T.1.1 T.1.2 T.2.1.1 T.2.1.2)) c5 rfl rfl (.head _) rfl (λ_=>rfl) λd8=>by obtain⟨⟨X,Z⟩,⟨⟨a0,a⟩,_⟩⟩:=d8;exact .nm 13 O<|.xk (zl [] 4 O)<|by refine Ei _ _ (X,Z,a0,a) ?_ ?_;exact⟨O,O,O,O,O,O,O,trivial⟩;exactλ_ w=>w);case Oa=>exactλ⟨X,Z,a0,a⟩=>.nm 13 rfl<|.CU<|.ct 15 [0,1] [] 0 (zDC e6) rfl λa6 a7 a8 a9=>.xk (zl [] 6 rfl)<|.yn 3 rfl<|.JF (Rd.LM (n':=16) d7 rfl rfl rfl rfl rfl rfl rfl) rfl<|by refine Eh _ _ (a6,a7,a8,a9,X,Z,a0,a) ?_ ?_;exact⟨O,O,O,O,O,O,O,O,O,O,trivial⟩;exactλ_ w=>w);case Ny=>exactλ⟨a6,a7,a8,a9,X,Z,a0,a⟩=>.nm 15 rfl<|.CU<|.Gf (ls:=zC) 0 (λT=>((a6,a7),((a8,a9),()))) d7 c6 rfl rfl (IQ 4 rfl) rfl rfl rfl rfl (λ_=>rfl) (λ_=>⟨(zm 2 rfl),(zm 3 rfl),trivial⟩)<|by exact .ss 58 (wM c6)<|by exact .ss 63 (wM c6)<|.BF (F':=.res (yQ (zW zC) 47 (some ⟨Y,0,none⟩) f e7)::.ro (FB BQ a6 a7 V.1.Slots.e0.BG.Data)::.ro (FB BQ a8 a9 V.1.Slots.e1.BG.Data)::.ro (FB BQ X Z u.Slots.e0.BG.Data)::.ro (FB BQ a0 a u.Slots.e1.BG.Data)::.res (Box j 151 [.pointer (jJ p.store l),.slice (some ⟨Y,0,none⟩) e7.length f,.slice B p.needs.length e,.int .i64 p.phase,.int .i64 p.AZ.Size,.int .i64 p.AZ.Part,.slice C p.AZ.Have.length h,.slice D p.AZ.Data.length i,.int .i64 p.mask,.slice E p.order.length S])::.ro (FB zP B e p.needs)::.ro (FB yC C h p.AZ.Have)::.ro (FB BQ D i p.AZ.Data)::.ro (FB zU E S p.order)::.ro (Sl (zW zQ) F o n.Keys)::.res (Box l 207 (zX n m F o))::.res (Box m 142 (yE k G q H r))::.res (zJ BQ 5 G q k.Data)::.res (zJ zU 3 H r k.EN)::d3) (λ_ w=>by rw[uC c6];exact w)<|.xk (zl [] 6 O)<|.DF<|.tn<|.kl 1 4 O<|.k 21 O<|by exact .bd U λm3 h6 U=>.call (zAv (j:=j) (l:=l) (m:=m) h6) O O O O (zd [6,7,8,9,10] [1,0,5,5,5,5] 0 O)<|by rintro _ _ ⟨h7,h8,h9,j0,j1,j2,j3,j4,j5,j6,j7,j8,j9,k0,k1,k2,rfl,rfl⟩;exact .nm 16 O<|ij U▸.bE (h7,h8,h9,j0,j1,j2,j3,j4,j5,j6,j7,j8,j9,k0,k1,k2) O O (zl [10,9,4,3,2,1,0,1,0,0,0] 5 O)) λU=>by refine .seq<|.bd U λW c7 U=>.bd U λc4 e8 U=>.bd U λm4 d9 U=>.bd U λe9 c8 U=>.BU (iN [0,4,8,16,20,24,28,36] (.alt (iN [15] (iN [35,40] (iN [47] (iN [51,53] (iN [59] .nil))))) (iN [35,40] (.alt (iN [15] (iN [47] (iN [51,53] (iN [59] .nil)))) (iN [47] (.alt (iN [15] (iN [51,53] (iN [59] .nil))) (iN [51] (iN [15,53] (iN [59] .nil))))))))) _ mixed (by kernel_rfl) (zl [] 2 O)<|.ET (Y:=?aCn) 0 (λ(x:kz)=>[0,6,7,.s 76 (AV (EL Y) J f),.s 77 (AO I),.s 81 (AV (EL Y) J f),.s 82 (AO I),.s 85 (DC (zL c4 x.1 x.2.1 x.2.2.1 x.2.2.2.1)),.s 86 (.pointer (some ⟨Y,Int.toNat I*16,none⟩))]) (λx=>[AB x.1 x.2.1 c4.Slots.e0.BG.Data,AB x.2.2.1 x.2.2.2.1 c4.Slots.e1.BG.Data,AB x.2.2.2.2.1 x.2.2.2.2.2.1 W.Slots.e0.BG.Data,AB x.2.2.2.2.2.2.1 x.2.2.2.2.2.2.2 W.Slots.e1.BG.Data]) O O (λEm=>?Oe) ?Og;(case Oe=>exact by refine .ET (Y:=?aCo) 0 (λ(x:IB)=>[0,6,7,.s 76 (AV (EL Y) J f),.s 77 (AO I),.s 81 (AV (EL Y) J f),.s 82 (AO I),.s 84 (DC (zL W x.1 x.2.1 x.2.2.1 x.2.2.2))]) (λx=>[AB x.1 x.2.1 W.Slots.e0.BG.Data,AB x.2.2.1 x.2.2.2 W.Slots.e1.BG.Data]) O O (λEn=>?Oh) ?Oi;(case Oh=>exact by refine .ET (Y:=?aCp) 0 (λ(x:Unit)=>[0,6,7,.s 76 (AV (EL Y) J f),.s 77 (AO I),.s 81 (AV (EL Y) J f),.s 82 (AO I),.s 83 (.pointer (some ⟨Y,Int.toNat I*16,none⟩))]) (λx=>[]) O O (λEo=>?Oj) ?Ol;(case Oj=>exact .yn 8 O<|.IL (.CU<|.lb 1 1 O<|.xk (zl [] 2 O)<|.CU<|.lb 1 1 O<|.xk (zl [] 2 O)<|.OB zw (Rd.LM (n':=16) c7 O O O O O O O) O<|by refine Eo _ _ () ?_ ?_;exact⟨O,O,O,O,O,O,O,O,trivial⟩;exactλ_ w=>w)<|.CU<|.lb 1 1 O<|.xk (zl [] 2 O)<|.OB zw (Rd.LM (n':=16) c7 O O O O O O O) O<|.IL (.CU<|.lb 1 1 O<|.xk (zl [] 2 O)<|by refine Eo _ _ () ?_ ?_;exact⟨O,O,O,O,O,O,O,O,trivial⟩;exactλ_ w=>w)<|.CU<|.QZ (ls:=zC) 0 (λT=>DC (zL W T.1.1 T.1.2 T.2.1.1 T.2.1.2)) c7 O O (.head _) O (λ_=>O) λe1=>by obtain⟨⟨b,c⟩,⟨⟨d,z⟩,_⟩⟩:=e1;exact .nm 13 O<|.xk (zl [] 4 O)<|.IL (.CU<|.lb 1 3 O<|.xk (zl [] 4 O)<|by refine En _ _ (b,c,d,z) ?_ ?_;exact⟨O,O,O,O,O,O,O,O,trivial⟩;exactλ_ w=>w)<|.CU<|.ct 15 [0,1] [] 0 (iI e8) O λb0 b1 b2 b3=>.xk (zl [] 6 O)<|.CU<|.lb 1 5 O<|.xk (zl [] 6 O)<|.JF (Rd.LM (n':=16) d9 O O O O O O O) O<|by refine Em _ _ (b0,b1,b2,b3,b,c,d,z) ?_ ?_;exact⟨O,O,O,O,O,O,O,O,O,trivial⟩;exactλ_ w=>w);case Ol=>exactλ⟨⟩=>.nm 11 rfl<|.CU<|.QZ (ls:=zC) 0 (λT=>DC (zL W T.1.1 T.1.2 T.2.1.1 T.2.1.2)) c7 rfl rfl (.head _) rfl (λ_=>rfl) λe1=>by obtain⟨⟨b,c⟩,⟨⟨d,z⟩,_⟩⟩:=e1;exact .nm 13 O<|.xk (zl [] 4 O)<|by refine En _ _ (b,c,d,z) ?_ ?_;exact⟨O,O,O,O,O,O,O,O,trivial⟩;exactλ_ w=>w);case Oi=>exactλ⟨b,c,d,z⟩=>.nm 13 rfl<|.CU<|.ct 15 [0,1] [] 0 (iI e8) rfl λb0 b1 b2 b3=>.xk (zl [] 6 rfl)<|.JF (Rd.LM (n':=16) d9 rfl rfl rfl rfl rfl rfl rfl) rfl<|by refine Em _ _ (b0,b1,b2,b3,b,c,d,z) ?_ ?_;exact⟨O,O,O,O,O,O,O,O,O,trivial⟩;exactλ_ w=>w);case Og=>exactλ⟨b0,b1,b2,b3,b,c,d,z⟩=>.nm 15 rfl<|.CU<|.Gf (ls:=zC) 0 (λT=>((b0,b1),((b2,b3),()))) d9 c8 rfl rfl (IQ 4 rfl) rfl rfl rfl rfl (λ_=>rfl) (λ_=>⟨(zm 2 rfl),(zm 3 rfl),trivial⟩)<|by exact .ss 76 (wM c8)<|by exact .ss 81 (wM c8)<|.BF (F':=.res (yQ (zW zC) 47 (some ⟨Y,0,none⟩) f e9)::.ro (FB BQ b0 b1 c4.Slots.e0.BG.Data)::.ro (FB BQ b2 b3 c4.Slots.e1.BG.Data)::.ro (FB BQ b c W.Slots.e0.BG.Data)::.ro (FB BQ d z W.Slots.e1.BG.Data)::.res (Box j 151 [.pointer (jJ p.store l),.slice (some ⟨Y,0,none⟩) e9.length f,.slice B p.needs.length e,.int .i64 p.phase,.int .i64 p.AZ.Size,.int .i64 p.AZ.Part,.slice C p.AZ.Have.length h,.slice D p.AZ.Data.length i,.int .i64 p.mask,.slice E p.order.length S])::.ro (FB zP B e p.needs)::.ro (FB yC C h p.AZ.Have)::.ro (FB BQ D i p.AZ.Data)::.ro (FB zU E S p.order)::.ro (Sl (zW zQ) F o n.Keys)::.res (Box l 207 (zX n m F o))::.res (Box m 142 (yE k G q H r))::.res (zJ BQ 5 G q k.Data)::.res (zJ zU 3 H r k.EN)::d3) (λ_ w=>by rw[uC c8];exact w)<|.xk (zl [] 6 O)<|.DF<|.tn<|.kl 1 4 O<|.k 31 O<|by exact .bd U λm5 k3 U=>.call (zGw (j:=j) (l:=l) (m:=m) k3) O O O O (zd [6,7,8,9,10] [1,0,5,5,5,5] 0 O)<|by rintro _ _ ⟨k4,k5,k6,k7,k8,k9,l0,l1,l2,l3,l4,l5,l6,l7,l8,l9,rfl,rfl⟩;exact .nm 16 O<|ij U▸.bE (k4,k5,k6,k7,k8,k9,l0,l1,l2,l3,l4,l5,l6,l7,l8,l9) O O (zl [10,9,4,3,2,1,0,1,0,0,0] 5 O))<|λ⟨b8,b9,c0,Q,f0,f1,f2,f3,f4,f5,f6,f7,f8,f9,g0,g1⟩=>.g 112 O<|by exact .cb t O (λt=>.g 11 O<|ij t▸.rv O O ⟨b8,b9,c0,Q,f0,f1,f2,f3,f4,f5,f6,f7,f8,f9,g0,g1,O,O⟩ (zk 11 5 [10,9,8,7,6] [8,7,7,7,1] 0 O)) λt=>.g 111 O<|ij t▸.rv O O ⟨b8,b9,c0,Q,f0,f1,f2,f3,f4,f5,f6,f7,f8,f9,g0,g1,O,O⟩ (zk 11 5 [10,9,8,7,6] [8,7,7,7,1] 0 O)
def qC(a:zD):Option (zD×Int):=
 bif(a.phase !=1)then some (a,46)else some ((⟨a.store,a.devices,a.needs,0,(⟨0,0,[],[]⟩:yA),a.before,a.order⟩:zD),0)
def zEw{f:Nat}{k g}(l:qC k=some g):DI 29 [BX f] [BH B h k.needs,BM C i k.load.Have,AB D j k.load.Data,BP E S k.order,BI f k o A e B h C i D j E S,AU A e k.devices] (λv F=>∃q r x w s t y T U Y,v=AO g.2/\F=[BH x w g.1.needs,BM s t g.1.load.Have,AB y T g.1.load.Data,BP U Y g.1.order,BI f g.1 o q r x w s t y T U Y,AU q r g.1.devices]):=CW.iz O λm G=>.k 41211 O<|.lb 3 4 O<|.u 1 O<|.cb l O (λl=>.g 11 O<|ij l▸.rv O O ⟨A,e,B,h,C,i,D,j,E,S,O,O⟩ (zk 6 4 [2,3,4,5] [4,4] 0 O)) λl=>.k 611 O<|.sb 4 4 O<|.n 2 O<|.sb 3 0 O<|.u 1 O<|.kl 2 2 O<|.g 11 O<|.BF (λ_ m=>m.BR (DN yC))<|.BF (λ_ m=>m.BR (DN BQ))<|ij l▸.rv O O ⟨A,e,B,h,none,0,none,0,E,S,O,O⟩ (zk 6 4 [4,3,2,5] [2,4] 0 O)
def lJ(a:zB)(b:Int)(c:Int):Option zB:=
 bif !a.down then some (⟨a.size,a.bytes,a.BO,a.steps,max b 0,c,a.down⟩:zB)else some a
def zGl{k g s n}(d:lJ k g s=some n):DI 31 [BX h,AO g,.int .u8 s] [BL h k A f B e,AL A f k.bytes,AY B e k.BO] (λv m=>∃i j S o,v=FC []/\m=[BL h n i j S o,AL i j n.bytes,AY S o n.BO]):=CW.iz O λq r=>.k 41 O<|.lb 6 0 O<|.u 1 O<|.cb d O (λd=>.k 81 O<|.sb 4 0 O<|.n 2 O<|.sb 5 0 O<|.done<|ij d▸.VI Tryz.results31 .nil O _ ⟨A,f,B,e,O,O⟩ zw) λd=>.skip<|ij d▸.VI Tryz.results31 .nil O _ ⟨A,f,B,e,O,O⟩ zw
def kR(a:yB)(b:Int)(c:Int):Option yB:=
 bif a.Down then some a else some (⟨a.Size,a.Data,a.EN,a.Steps,max b 0,c,a.Down⟩:yB)
def zHv{k g s r}(d:kR k g s=some r):DI 32 [BX h,AO g,.int .u8 s] [BN h k A f B e,AL A f k.Data,AY B e k.EN] (λv n=>∃i j S o,v=FC []/\n=[BN h r i j S o,AL i j r.Data,AY S o r.EN]):=CW.iz O λm q=>.k 412 O<|.lb 6 0 O<|.u 1 O<|.cb d O (λd=>ij d▸.rv O O ⟨A,f,B,e,O,O⟩ zw) λd=>.k 611 O<|.sb 4 0 O<|.v 511 O<|.sb 5 0 O<|.done<|ij d▸.VI Tryz.results32 .nil O _ ⟨A,f,B,e,O,O⟩ zw
def sM[AX](b:zD):Option (List zA):=
 bnd (Me 184 ((⟨⟨#[]⟩,(⟨(⟨(⟨⟨#[]⟩,(⟨0,0,0⟩:zS),[]⟩:zO),0⟩:yJ),(⟨(⟨⟨#[]⟩,(⟨0,0,0⟩:zS),[]⟩:zO),0⟩:yJ)⟩:(sW yJ)),0,0,false⟩:zA):zA) 0 (b.devices.length:Int):Option (List zA)) λe=>bnd (zZ (τ:=List zA) (λ(f:List zA×Int)=>bif decide (f.2<(b.devices.length:Int))then bnd (CO b.devices f.2) λh=>bnd (qV h) λi=>bnd (app 184 f.1 [i]) λj=>some (.next (j,wrap .i64 (f.2+1)))else some (.done f.1)) (e,0)) λS=>some S
def eV{f:Nat}[AX]{n s}(l:sM n=some s):DI 97 [BX f] [BH B h n.needs,BM C i n.load.Have,AB D j n.load.Data,BP E S n.order,BI f n o A e B h C i D j E S,AU A e n.devices] (λv G=>∃w y,v=AV w s y/\G=[BI f n o A e B h C i D j E S,AU A e n.devices,AU w y s]):=CW.iz O λa0 a=>.k 4111 O<|.lb 1 4 O<|.n 1 O<|by exact .bd l λb T l=>.Me (ls:=zC) (⟨⟨#[]⟩,(⟨(⟨(⟨⟨#[]⟩,(⟨0,0,0⟩:zS),[]⟩:zO),0⟩:yJ),(⟨(⟨⟨#[]⟩,(⟨0,0,0⟩:zS),[]⟩:zO),0⟩:yJ)⟩:(sW yJ)),0,0,false⟩:zA) T O O O O O O O O O O O λH=>by exact .v 4121 O<|.lb 1 5 O<|.u 1 O<|by exact .bd l λU T l=>by exact .ck 1 (λ(q:EQ)=>[.s 3 (AV q.1 U q.2)]) (λq=>[AU q.1 q.2 U]) O O (.lp T ((EL H),(Int.toNat (n.devices.length:Int))) 1 (λ(r:List zA×Int) (x:EQ)=>[.s 3 (AV x.1 r.1 x.2),15,16,.s 17 (AO r.2)]) (λr x=>[AU x.1 x.2 r.1]) O O O zw<|λr ⟨w,y⟩ c I J m=>.g 211 O<|by exact .cb m O (λm=>.g 21 O<|.bk<|.k 1 O<|by exact .bd m λK F m=>.ay F O O O (zm 6 O) O O O O O λd L=>by subst L;exact .QZ (ls:=zC) 0 (λt=>DC (zL K t.1.1 t.1.2 t.2.1.1 t.2.1.2)) F O O (zm 6 O) O (λ_=>O) λM=>by obtain⟨⟨p,a6⟩,⟨⟨a7,a8⟩,_⟩⟩:=M;exact .nm 9 O<|.alloc O O λa9=>.sb 0 0 O<|.v 211 O<|.lb 0 0 O<|by exact .bd m λN P m=>.ct 12 [1,2] [] 0 (zDA P) O λQ R g k=>.bS O λb0=>by exact .bd m λb1 V m=>.QO (E:=(zW zC)) V O O O (IQ 6 O) O O O O O O O O (aT (ls:=zC) [(N,((Q,R),((g,k),())))] (.head _) O O O ⟨GH,(zm 2 O),trivial⟩) O O λW X=>by exact .n 1 O<|.done<|.bn<|.kl 1 6 O<|.k 1 O<|.bh (W,X) m I O O zw) λm=>.xx<|hy m J▸.hE (w,y) O zw)<|λ⟨Y,Z⟩=>.g 11 O<|ij l▸.rv O O ⟨Y,Z,O,O⟩ (zl [5,5,0] 4 O)
def nE(a:zO)(b:zO):Option Bool:=
 bnd (bif(a.Name.toList==b.Name.toList)then bif((a.Version.CB==b.Version.CB)&&((a.Version.CG==b.Version.CG)&&((a.Version.CQ==b.Version.CQ)&&true)))then some ((iR a.Data).toList==(iR b.Data).toList)else(some false)else some false:Option Bool) λf=>some f
def zBl{d k g}(n:nE d k=some g):DI 234 [DC (xQ d A f),DC (xQ k B e)] [AB A f d.Data,AB B e k.Data] (Val (.bool g)):=CW.iz O λj S=>.k 1 O<|.box O O λo=>.box O O λm=>.u 21 O<|.bd n λi h n=>.co 4 [.s 4 (.bool i)] [] O O (.k 21 O<|.lb 0 1 O<|.n 1 O<|.lb 0 0 O<|.n 2 O<|.gs 10 h O (λh=>.n 1 O<|.CV O O<|.lb 1 1 O<|.n 1 O<|.CV O O<|.lb 1 0 O<|.n 3 O<|.gs 17 h O (λh=>.n 1 O<|.CV O O<|.lb 4 1 O<|.CV O O<|.Dt O O O O O O O O O (lI (E:=BQ) KN)<|by exact .n 1 O<|.CV O O<|.lb 4 0 O<|.CV O O<|.Dt O O O O O O O O O (lI (E:=BQ) jg)<|ij h▸.bu O O (zl [] 4 O)) λh=>ij h▸.bu O O (zl [] 4 O)) λh=>ij h▸.bu O O (zl [] 4 O))<|ij n▸.rv O O ⟨O,O⟩ zw
def U4(a:zA)(b:zA):Option Bool:=
 bnd (bif !(a.Name.toList==b.Name.toList)then some true else bif(a.Active !=b.Active)then some true else bif(a.Running !=b.Running)then some true else some (!(a.CX==b.CX)):Option Bool) λf=>bif f then some false else bnd (bif(a.Slots.e0.Sum !=b.Slots.e0.Sum)then some true else bnd (nE a.Slots.e0.BG b.Slots.e0.BG) λe=>some (!e):Option Bool) λh=>bif h then some false else bnd (bif(a.Slots.e1.Sum !=b.Slots.e1.Sum)then some true else bnd (nE a.Slots.e1.BG b.Slots.e1.BG) λi=>some (!i):Option Bool) λj=>bif j then some false else some true
def zOI{k l n}(g:U4 k l=some n):DI 182 [DC (zL k A f B e),DC (zL l C h D i)] [AB A f k.Slots.e0.BG.Data,AB B e k.Slots.e1.BG.Data,AB C h l.Slots.e0.BG.Data,AB D i l.Slots.e1.BG.Data] (Val (.bool n)):=CW.iz O λv w=>.k 1 O<|.box O O λy=>.box O O λT=>.u 221 O<|.bd g λm j g=>.co 0 [2,3,.s 31 (.bool m)] [] O O (.k 21 O<|.lb 0 1 O<|.n 1 O<|.lb 0 0 O<|.n 2 O<|.gs 11 j O (λj=>ij j▸.bu O O zw) λj=>.n 1 O<|.CV O O<|.lb 13 1 O<|.n 1 O<|.CV O O<|.lb 13 0 O<|.n 3 O<|.gs 18 j O (λj=>ij j▸.bu O O zw) λj=>.n 1 O<|.CV O O<|.lb 14 1 O<|.n 1 O<|.CV O O<|.lb 14 0 O<|.n 3 O<|.gs 25 j O (λj=>ij j▸.bu O O zw) λj=>.n 1 O<|.CV O O<|.lb 15 1 O<|.n 1 O<|.CV O O<|.lb 15 0 O<|ij j▸.bu O O zw)<|.cb g O (λg=>.g 11 O<|.kl 0 6 O<|ij g▸.rv O O ⟨O,O⟩ zw) λg=>.g 1121 O<|.bk<|.rz 9<|.ry<|.g 112 O<|.JE O<|.g 21 O<|.bk<|.g 2 O<|.bd g λq S g=>.co 0 [2,3,5,.s 60 (.bool q)] [] O O (.regionF mixed (by kernel_rfl)<|.n 4 O<|.lb 6 1 O<|.n 4 O<|.lb 6 0 O<|.n 2 O<|.gs 47 S O (λS=>ij S▸(.beq O<|.hU O zw)) λS=>.n 4 O<|.CV O O<|.lb 1 1 O<|.n 4 O<|.CV O O<|.lb 1 0 O<|.CV O O<|.bd S λU r S=>.cv [2,4] (zBl r) O<|ij S▸(.beq O<|.hU O zw))<|.cb g O (λg=>.g 11 O<|.kl 0 6 O<|ij g▸.rv O O ⟨O,O⟩ zw) λg=>.sn<|.k 1 O<|.be O<|.ry<|.g 112 O<|.JE O<|.g 21 O<|.bk<|.g 2 O<|.bd g λx o g=>.co 0 [2,3,5,.s 60 (.bool x)] [] O O (.regionF mixed (by kernel_rfl)<|.n 4 O<|.lb 12 1 O<|.n 4 O<|.lb 12 0 O<|.n 2 O<|.gs 47 o O (λo=>ij o▸(.beq O<|.hU O zw)) λo=>.n 4 O<|.CV O O<|.lb 7 1 O<|.n 4 O<|.CV O O<|.lb 7 0 O<|.CV O O<|.bd o λE t o=>.cv [3,5] (zBl t) O<|ij o▸(.beq O<|.hU O zw))<|.cb g O (λg=>.g 11 O<|.kl 0 6 O<|ij g▸.rv O O ⟨O,O⟩ zw) λg=>.sn<|.k 1 O<|.be O<|.ry<|.g 112 O<|.LY O<|.xz<|.kl 0 6 O<|.g 11 O<|ij g▸.rv O O ⟨O,O⟩ zw
def lZ[AX](b:(List zA))(c:(List zA)):Option Bool:=
 bif((b.length:Int) !=(c.length:Int))then some false else bnd (zZ (τ:=Bool⊕Unit) (λ(f:Int)=>bif decide (f<(b.length:Int))then bnd (CO b f) λe=>bnd (CO c f) λh=>bnd (U4 e h) λi=>bif !i then some (.done (.inl false))else(some (.next (wrap .i64 (f+1))))else some (.done (.inr ()))) 0) λj=>xX j λS=>some true
def zDx[AX]{k n s}(d:lZ k n=some s):DI 98 [AV A k f,AV B n e] [JJ A f k,JJ B e n] (Val (.bool s)):=CW.iz O λD E=>.g 11211 O<|.cb d O (λd=>.g 11 O<|.kl 0 2 O<|ij d▸.rv O O ⟨O,O⟩ zw) λd=>.g 1121 O<|.bd d λr x d=>.cj 2 (λ(i:Unit) (o:Unit)=>[]) (λi o=>[]) O O (λi=>r=.inr i) (.lp x () 0 (λ(j:Int) (m:Unit)=>[0,1,.s 5 (AO j)]) (λj m=>[]) O O O zw<|λj m F w q h=>.g 112 O<|.cb h O (λh=>.g 21 O<|.bk<|.g 2 O<|.regionF mixed (by kernel_rfl)<|.n 2 O<|.bd h λG t h=>.PK t 0 O λH u v=>by obtain⟨⟨I,J⟩,⟨⟨K,L⟩,_⟩⟩:=v;exact .nm 5 O<|.ld u 0 0 O<|.n 2 O<|.bd h λM y h=>.PK y 4 O λN T U=>by obtain⟨⟨P,Q⟩,⟨⟨R,S⟩,_⟩⟩:=U;exact .nm 8 O<|.ld T 0 0 O<|.bd h λg Y h=>.cv [4,5,1,2] (zOI Y) O<|.uq O<|.kl 0 6 O<|.cb h O (λh=>.g 11 O<|.kl 0 2 O<|hz h q d▸.rv O O ⟨O,O⟩ zw) λh=>.sn<|.k 1 O<|.bh () h w O O zw) λh=>.xx<|.EK () () (hxd h q) trivial (zl [] 2 O))<|λi o C=>by subst C;have d:=KF d;exact .g 11 O<|ij d▸.rv O O ⟨O,O⟩ zw
def uL(a:zB):Option zB:=
 some (⟨a.size,a.bytes,a.BO,a.steps,0,a.DT,false⟩:zB)
def lQ{d k}(n:uL d=some k):DI 99 [BX h] [BL h d A f B e,AL A f d.bytes,AY B e d.BO] (λv m=>∃i j S o,v=FC []/\m=[BL h k i j S o,AL i j k.bytes,AY S o k.BO]):=by unfold uL at n;exact CW.iz O λq r=>.k 51 O<|.sb 6 0 O<|.n 2 O<|.sb 4 0 O<|.done<|ij n▸.VI Tryz.results99 .nil O _ ⟨A,f,B,e,O,O⟩ zw
def tE(a:yB):Option yB:=
 some (⟨a.Size,a.Data,a.EN,a.Steps,0,a.NC,false⟩:yB)
def kL{d k}(p:tE d=some k):DI 100 [BX h] [BN h d A f B e,AL A f d.Data,AY B e d.EN] (λv m=>∃i j S o,v=FC []/\m=[BN h k i j S o,AL i j k.Data,AY S o k.EN]):=by unfold tE at p;exact CW.iz O λq n=>.k 41 O<|.sb 6 0 O<|.v 411 O<|.sb 4 0 O<|.done<|ij p▸.VI Tryz.results100 .nil O _ ⟨A,f,B,e,O,O⟩ zw
def tW[AX](b:tM)(k:(List zA))(d:(List zA))(l:zB)(C:yB)(v:zD)(w:zE)(D:zH)(y:zG):Option (tM×zB×yB×Int×Bool×(Option (zE×zG×zD×zH))):=
 bnd (vZ b.d) λx=>bnd (vT l 0) λi=>eN i.2.1 (none) (λn=>bnd (vZ b.f) λA=>bnd (lT C 0) λj=>eN j.2.1 (none) (λS=>bnd (bif(i.2.2 !=j.2.2)then some true else some (i.2.2 !=0):Option Bool) λo=>bif o then some (b,i.1,j.1,i.2.2,(i.2.2==j.2.2),none)else bnd (sJ n k b.needs i.1) λf=>eN f.2.2.1 (bnd (nP S d b.needs j.1) λh=>eN h.2.2.1 (bnd (bif(f.2.2.2==0)then some (h.2.2.2==0)else some false:Option Bool) λm=>bif m then some ((⟨b.d,b.f,false,false,b.needs⟩:tM),f.2.1,h.2.1,f.2.2.2,false,none)else some (b,f.2.1,h.2.1,f.2.2.2,(f.2.2.2==h.2.2.2),none)) (λB=>bnd (bif(f.2.2.2==0)then some (h.2.2.2==0)else some false:Option Bool) λq=>bif q then none else some (b,f.2.1,h.2.1,f.2.2.2,(f.2.2.2==h.2.2.2),none))) (λr=>bnd (nP S d b.needs j.1) λe=>eN e.2.2.1 (bnd (bif(f.2.2.2==0)then some (e.2.2.2==0)else some false:Option Bool) λs=>bif s then none else some (b,f.2.1,e.2.1,f.2.2.2,(f.2.2.2==e.2.2.2),none)) (λt=>bnd (bif(f.2.2.2==0)then some (e.2.2.2==0)else some false:Option Bool) λu=>bif u then some ((⟨b.d,b.f,true,true,b.needs⟩:tM),f.2.1,e.2.1,f.2.2.2,true,(some (f.1,e.1,r,t)))else some (b,f.2.1,e.2.1,f.2.2.2,(f.2.2.2==e.2.2.2),none)))))
def jT{S:Option Addr}{t:Nat}{y:Nat}{z:Nat}[AX]{f0 f1 f2 d2 d3 n a0 Z b7 l X b8 a6 b9 a7 V}(g:tW f0 f1 f2 d2 d3 n a0 Z b7=some V):DI 22 [BX y,AV B f1 e,AV C f2 h] [BH A f f0.needs,JJ B e f1,JJ C h f2,BH I r n.needs,BM J x n.load.Have,AB K w n.load.Data,BP L T n.order,BH N Y Z.needs,BM P i1 Z.AZ.Have,AB Q t Z.AZ.Data,BP R i4 Z.order,ED S i7 b7.Keys,.ro (WR 0 [(2,some 296),(3,some 297)]),FZ y f0 z X b8 b9 A f,BL z d2 D i E j,AL D i d2.bytes,AY E j d2.BO,BN X d3 F o G m,AL F o d3.Data,AY G m d3.EN,BI b8 n a6 H q I r J x K w L T,AU H q n.devices,CP a6 a0 z l,.res (xF (yW .u8) (DN BQ) l a0.all),BJ b9 Z a7 M U N Y P i1 Q t R i4,AU M U Z.devices,BZ a7 b7 X S i7] (yu V.2.2.2.2.2 (λv f3=>∃c0 p c2 c3 a b c d c4 c5,v=FC [AO V.2.2.2.1,.bool V.2.2.2.2.1]/\f3=[BH c0 p V.1.needs,FZ y V.1 z X b8 b9 c0 p,BL z V.2.1 c2 c3 a b,AL c2 c3 V.2.1.bytes,AY a b V.2.1.BO,BN X V.2.2.1 c d c4 c5,AL c d V.2.2.1.Data,AY c4 c5 V.2.2.1.EN,BI b8 n a6 H q I r J x K w L T,AU H q n.devices,CP a6 a0 z l,.res (xF (yW .u8) (DN BQ) l a0.all),BJ b9 Z a7 M U N Y P i1 Q t R i4,AU M U Z.devices,BZ a7 b7 X S i7]) (λW v f3=>∃c6 a8 d4 f4 c0 p c2 c3 a b c d c4 c5 f5 g0 g1 d5 d6 d7 d8 f6 f7 a9 b0 b1 b2 b3 b4 b5 b6 d9 e0 e1 e2 e3 e4,v=FC [AO V.2.2.2.1,.bool V.2.2.2.2.1]/\f3=[BH c0 p V.1.needs,ED g0 g1 W.2.1.Keys,BH d7 d8 W.2.2.1.needs,BM f6 f7 W.2.2.1.load.Have,AB a9 b0 W.2.2.1.load.Data,BP b1 b2 W.2.2.1.order,BH b5 b6 W.2.2.2.needs,BM d9 e0 W.2.2.2.AZ.Have,AB e1 e2 W.2.2.2.AZ.Data,BP e3 e4 W.2.2.2.order,FZ y V.1 z X d4 f4 c0 p,BL z V.2.1 c2 c3 a b,AL c2 c3 V.2.1.bytes,AY a b V.2.1.BO,BN X V.2.2.1 c d c4 c5,AL c d V.2.2.1.Data,AY c4 c5 V.2.2.1.EN,BI b8 n a6 H q I r J x K w L T,AU H q n.devices,CP a6 a0 z l,.res (xF (yW .u8) (DN BQ) l a0.all),BJ b9 Z a7 M U N Y P i1 Q t R i4,AU M U Z.devices,BZ a7 b7 X S i7,CP c6 W.1 z f5,.res (xF (yW .u8) (DN BQ) f5 W.1.all),BZ a8 W.2.1 X g0 g1,BI d4 W.2.2.1 c6 d5 d6 d7 d8 f6 f7 a9 b0 b1 b2,AU d5 d6 W.2.2.1.devices,BJ f4 W.2.2.2 a8 b3 b4 b5 b6 d9 e0 e1 e2 e3 e4,AU b3 b4 W.2.2.2.devices])):=CW.iz O λm3 m4=>.k 4111 O<|.lb 0 13 O<|.bd g λm5 h0 g=>by exact .ss 18 (xY h0)<|.bd g λh1 h2 g=>.call (fG h2) O O O O (zl [14,14,14] 0 O)<|λe5 e6 k=>by rcases f8:h1.2.1 with _|m6;(replace g:=oJ f8 g;cases g);(replace k:=pJ f8 k;replace g:=oB f8 g;obtain⟨c6,a,b,c,d,f5,rfl,rfl⟩:=k;exact .nm 29 O<|.v 411 O<|.lb 1 18 O<|.bd g λm7 h3 g=>by exact .ss 26 (xY h3)<|.bd g λh4 h5 g=>.call (zHY h5) O O O O (zl [19,19,19] 0 O)<|λe5 e6 k=>by rcases f9:h4.2.1 with _|m8;(replace g:=oJ f9 g;cases g);(replace k:=pJ f9 k;replace g:=oB f9 g;obtain⟨a8,d5,d6,d7,d8,f6,f7,rfl,rfl⟩:=k;exact .nm 31 O<|.u 221 O<|.bd g λh6 c7 g=>.co 0 [0,1,2,8,9,10,11,.s 36 (.bool h6)] [] O O (.k 51 O<|.gs 33 c7 O (λc7=>ij c7▸.bu O O zw) λc7=>ij c7▸.bu O O zw)<|.cb g O (λg=>.g 11 O<|.pg [1,1,1,2,2,2,4] 6 O<|ij g▸.rv O O (wA ⟨A,f,a,b,c,d,d5,d6,d7,d8,O,O⟩) (zk 15 11 [14] [17,3,3,3,0,0,0,11,11,11,11,11,11,11] 0 O)) λg=>.k 611 O<|.lb 4 23 O<|.bd g λh7 h8 g=>.call (zBM (e:=c6) (f:=z) h8) O O O O (zd [11,10,22] [8,8,5,5,5] 0 O)<|λe5 e6 k=>by rcases e7:h7.2.2.1 with _|m9;(replace k:=iY e7 k;replace g:=oJ e7 g;obtain⟨n0,a9,b0,b1,b2,rfl,rfl⟩:=k;exact .nm 31 O<|.u 1 O<|.pg [2,2,2,2,2,2,2,2,2] 3 O<|.k 61 O<|.lb 4 20 O<|.bd g λh9 j0 g=>.call (S9 (f:=a8) (h:=X) j0) O O O O (zd [7,9,8] [7,4,4,4] 0 O)<|λe5 e6 k=>by rcases e8:h9.2.2.1 with _|n1;(replace k:=iY e8 k;replace g:=oJ e8 g;obtain⟨n2,n3,g2,g3,g4,g5,rfl,rfl⟩:=k;exact .nm 29 O<|.u 1 O<|.pg [2,2,2,2,2,2,3] 4 O<|.g 22 O<|.bd g λj1 c8 g=>.co 0 [0,9,11,12,13,.s 66 (.bool j1)] [] O O (.k 41 O<|.gs 63 c8 O (λc8=>ij c8▸.bu O O zw) λc8=>ij c8▸.bu O O zw)<|.cb g O (λg=>.k 71 O<|.sb 2 17 O<|.n 2 O<|.sb 3 0 O<|.u 111 O<|ij g▸.rv O O (wA ⟨A,f,a9,b0,b1,b2,g2,g3,g4,g5,O,O⟩) (zk 15 11 [14] [0,3,3,3,0,0,0,11,11,11,11,11,11,11] 0 O)) λg=>.g 111 O<|ij g▸.rv O O (wA ⟨A,f,a9,b0,b1,b2,g2,g3,g4,g5,O,O⟩) (zk 15 11 [14] [17,3,3,3,0,0,0,11,11,11,11,11,11,11] 0 O));(replace k:=pJ e8 k;replace g:=oB e8 g;obtain⟨f4,n4,n5,j2,j3,j4,j5,n6,n7,n8,n9,o0,o1,o2,o3,o4,o5,rfl,rfl⟩:=k;exact .nm 35 O<|.u 1 O<|.pg [0,0,0,0,0,0,0,0,0,0,0,0,0,0,1] 2 O<|.g 22 O<|.bd g λj6 c9 g=>.co 0 [0,9,11,12,13,.s 66 (.bool j6)] [] O O (.k 41 O<|.gs 63 c9 O (λc9=>ij c9▸.bu O O zw) λc9=>ij c9▸.bu O O zw)<|.cb g O (λg=>.k 71 O<|.sb 2 25 O<|.n 2 O<|.sb 3 0 O<|.u 1 O<|.ab [6,7] O<|by cases g) λg=>.g 1 rfl<|.pg [6,6,6] 8 rfl<|.g 11 rfl<|ij g▸.rv rfl rfl (wA ⟨A,f,a9,b0,b1,b2,j2,j3,j4,j5,rfl,rfl⟩) (zk 15 11 [14] [17,3,3,3,0,0,0,11,11,11,11,11,11,11] 0 rfl)));(replace k:=pJ e7 k;replace g:=oB e7 g;obtain⟨d4,j7,b3,b4,b5,b6,d9,e0,e1,e2,e3,e4,j8,j9,k0,k1,rfl,rfl⟩:=k;exact .nm 37 O<|.u 1 O<|.kl 17 1 O<|.k 61 O<|.lb 4 28 O<|.bd g λk2 k3 g=>.call (S9 (f:=a8) (h:=X) k3) O O O O (zd [15,17,16] [15,12,12,12] 0 O)<|λe5 e6 k=>by rcases e9:k2.2.2.1 with _|o6;(replace k:=iY e9 k;replace g:=oJ e9 g;obtain⟨o7,o8,k4,k5,k6,k7,rfl,rfl⟩:=k;exact .nm 37 O<|.u 1 O<|.pg [2,2,2,2,2,2,2,2,2,2,2,2,2,2,3] 4 O<|.g 22 O<|.bd g λk8 d0 g=>.co 0 [0,9,11,12,13,.s 66 (.bool k8)] [] O O (.k 41 O<|.gs 63 d0 O (λd0=>ij d0▸.bu O O zw) λd0=>ij d0▸.bu O O zw)<|.cb g O (λg=>.k 71 O<|.sb 2 25 O<|.n 2 O<|.sb 3 0 O<|.u 1 O<|.ab [6,7] O<|by cases g) λg=>.g 1 rfl<|.pg [0,0,0,6,6,6] 8 rfl<|.g 11 rfl<|ij g▸.rv rfl rfl (wA ⟨A,f,b3,b4,b5,b6,k4,k5,k6,k7,rfl,rfl⟩) (zk 15 11 [14] [17,3,3,3,0,0,0,11,11,11,11,11,11,11] 0 rfl));(replace k:=pJ e9 k;replace g:=oB e9 g;obtain⟨k9,l0,l1,g6,g7,g8,g9,l2,l3,l4,l5,l6,l7,l8,l9,m0,m1,rfl,rfl⟩:=k;exact .nm 43 O<|.u 1 O<|.pg [0,0,0,0,0,0,0,0,0,0,0,0,0,0,0,0,0,0,0,0,0,0,1] 2 O<|.g 22 O<|.bd g λm2 d1 g=>.co 0 [0,9,11,12,13,.s 66 (.bool m2)] [] O O (.k 41 O<|.gs 63 d1 O (λd1=>ij d1▸.bu O O zw) λd1=>ij d1▸.bu O O zw)<|.cb g O (λg=>.k 71 O<|.sb 2 33 O<|.n 2 O<|.sb 3 0 O<|.u 111 O<|ij g▸.rv O O (qD ⟨c6,a8,d4,k9,A,f,b3,b4,b5,b6,g6,g7,g8,g9,j7,l0,l1,d9,e0,e1,e2,e3,e4,j8,j9,k0,k1,l2,l3,l4,l5,l6,l7,l8,l9,m0,m1,O,O⟩) (zk 31 20 [30,21,26,27,28,29,22,23,24,25] [0,17,17,17,6,6,6,27,27,27,27,27,27,27,12,12,5,11,11,5,5] 0 O)) λg=>.g 1 O<|.pg [6,6,6,14,14,14] 16 O<|.g 11 O<|ij g▸.rv O O (wA ⟨A,f,b3,b4,b5,b6,g6,g7,g8,g9,O,O⟩) (zk 15 11 [14] [17,3,3,3,0,0,0,11,11,11,11,11,11,11] 0 O)))))
def kV[AX](b:yA)(c:Int):Option (List Int):=
 bnd (pX b) λe=>bif !e then some ([])else bnd (zZ (τ:=List Int) (λ(f:List Int×Int)=>bif decide (f.2<(b.Have.length:Int))then bnd (CO b.Have f.2) λh=>bnd (bif !h then some (decide ((f.1.length:Int)<c))else some false:Option Bool) λi=>bif i then bnd (app 8 f.1 [f.2]) λj=>some (.next (j,wrap .i64 (f.2+1)))else(some (.next (f.1,wrap .i64 (f.2+1))))else some (.done f.1)) ([],0)) λS=>some S
end
section
def zHj[AX]{k n p}(d:kV k n=some p):DI 183 [DC (wI k A f B e),AO n] [BM A f k.Have,AB B e k.Data] (λv y=>∃i j,v=AV i p j/\y=[AY i j p]):=CW.iz O λr K=>.k 1 O<|.box O O λL=>.v 121 O<|.lb 0 0 O<|by exact .bd d λM T d=>.cv [1,2] (iK T) O<|.u 1 O<|by exact .cb d O (λd=>.g 11 O<|.kl 0 3 O<|.BF (λ_ r=>r.GI zU 3)<|ij d▸.rv O O ⟨none,0,O,O⟩ zw) λd=>.k 212111 O<|.lb 2 0 O<|.u 1 O<|.pg [1] 2 O<|.BF (λ_ r=>r.GI zU 3)<|by exact .bd d λt x d=>by exact .ck 2 (λ(S:EQ)=>[.s 5 (AV S.1 t S.2)]) (λS=>[AY S.1 S.2 t]) O O (.lp x (none,0) 1 (λ(o:List Int×Int) (m:EQ)=>[1,.s 5 (AV m.1 o.1 m.2),12,13,.s 14 (AO o.2)]) (λo m=>[AY m.1 m.2 o.1]) O O O zw<|λo ⟨i,j⟩ N w C h=>.g 211 O<|by exact .cb h O (λh=>.g 21 O<|.bk<|.k 21 O<|by exact .bd h λP D h=>.II D 1 O λQ E=>.ld E 0 0 O<|.u 1 O<|.kl 0 1 O<|.g 2 O<|by exact .bd h λF q h=>by exact .co 0 [1,5,6,12,13,14,.s 26 (.bool F)] [] O O (.k 41 O<|by exact .gs 21 q O (λq=>ij q▸.bu O O zw) λq=>ij q▸.bu O O zw)<|by exact .cb h O (λh=>.k 31 O<|.bS O λR=>by exact .bd h λg x h=>.app (E:=zU) x O O O (.s .z) O O O O O O O O (jC (.head _) O O) O O λG H=>by exact .n 1 O<|.done<|.bn<|.kl 1 1 O<|.k 1 O<|.bh (G,H) h w O O zw) λh=>.sn<|.k 1 O<|.bh (i,j) h w O O zw) λh=>.xx<|hy h C▸.hE (i,j) O (zl [0] 1 O))<|λ⟨I,J⟩=>.g 11 O<|ij d▸.rv O O ⟨I,J,O,O⟩ zw
def oN[AX](a:zD)(b:Int):Option (List Int):=
 bif(a.phase !=1)then some ([])else bnd (kV a.load b) λf=>some f
def zDO{f:Nat}[AX]{g p n}(k:oN g p=some n):DI 101 [BX f,AO p] [BH B h g.needs,BM C i g.load.Have,AB D j g.load.Data,BP E S g.order,BI f g o A e B h C i D j E S,AU A e g.devices] (λv x=>∃m q,v=AV m n q/\x=[BI f g o A e B h C i D j E S,AU A e g.devices,AY m q n]):=CW.iz O λr t=>.k 41211 O<|.lb 3 4 O<|.u 1 O<|.cb k O (λk=>.g 11 O<|.BF (λ_ r=>r.GI zU 3)<|ij k▸.rv O O ⟨none,0,O,O⟩ (zl [5,5,0] 4 O)) λk=>.k 411 O<|.lb 4 4 O<|.n 1 O<|.bd k λw s k=>.cr 7 [1,2] [] 0 (zHj s) O λm q=>.u 1 O<|ij k▸.rv O O ⟨m,q,O,O⟩ (zl [5,5,0] 4 O)
def nF[AX](a:zH)(b:Int):Option (List Int):=
 bif(a.phase !=1)then some ([])else bnd (jM a.AZ b) λf=>some f
def zEa{f:Nat}[AX]{g p n}(k:nF g p=some n):DI 102 [BX f,AO p] [BH B h g.needs,BM C i g.AZ.Have,AB D j g.AZ.Data,BP E S g.order,BJ f g o A e B h C i D j E S,AU A e g.devices] (λv x=>∃m q,v=AV m n q/\x=[BJ f g o A e B h C i D j E S,AU A e g.devices,AY m q n]):=CW.iz O λr t=>.k 41211 O<|.lb 3 4 O<|.u 1 O<|.cb k O (λk=>.g 11 O<|.BF (λ_ r=>r.GI zU 3)<|ij k▸.rv O O ⟨none,0,O,O⟩ (zl [5,5,0] 4 O)) λk=>.k 411 O<|.lb 4 4 O<|.n 1 O<|.bd k λw s k=>.cr 7 [1,2] [] 0 (zES s) O λm q=>.u 1 O<|ij k▸.rv O O ⟨m,q,O,O⟩ (zl [5,5,0] 4 O)
def mI(a:zH):Option Int:=
 some a.phase
def zFw{f:Nat}{k p}(r:mI k=some p):DI 103 [BX f] [BH B h k.needs,BM C i k.AZ.Have,AB D j k.AZ.Data,BP E S k.order,BJ f k o A e B h C i D j E S,AU A e k.devices] (λv m=>v=AO p/\m=[BJ f k o A e B h C i D j E S,AU A e k.devices]):=by unfold mI at r;exact CW.iz O λq n=>.k 4111 O<|.lb 3 4 O<|.u 1 O<|ij r▸.rv O O ⟨O,O⟩ (zl [] 4 O)
def U5[AX](d:(List zR))(k:(List zR)):Option Bool:=
 bif((d.length:Int) !=(k.length:Int))then some false else bnd (zZ (τ:=Bool⊕Unit) (λ(f:Int)=>bif decide (f<(d.length:Int))then bnd (CO d f) λe=>bnd (CO k f) λh=>bif !((e.Name.toList==h.Name.toList)&&(((e.Version.CB==h.Version.CB)&&((e.Version.CG==h.Version.CG)&&((e.Version.CQ==h.Version.CQ)&&true)))&&true))then some (.done (.inl false))else(some (.next (wrap .i64 (f+1))))else some (.done (.inr ()))) 0) λi=>xX i λj=>some true
def zPa[AX]{g k n}(d:U5 g k=some n):DI 104 [AV A g f,AV B k e] [DY A f g,DY B e k] (Val (.bool n)):=CW.iz O λT U=>.g 11211 O<|.cb d O (λd=>.g 11 O<|.kl 0 2 O<|ij d▸.rv O O ⟨O,O⟩ zw) λd=>.g 1121 O<|.bd d λq r d=>.cj 2 (λ(i:Unit) (S:Unit)=>[]) (λi S=>[]) O O (λi=>q=.inr i) (.lp r () 0 (λ(j:Int) (o:Unit)=>[0,1,.s 5 (AO j)]) (λj o=>[]) O O O zw<|λj o C x m h=>.g 112 O<|.cb h O (λh=>.g 21 O<|.bk<|.g 2 O<|.regionF mixed (by kernel_rfl)<|.n 2 O<|.bd h λD t h=>.II t 0 O λE u=>.ld u 0 0 O<|.n 2 O<|.bd h λF v h=>.II v 2 O λG w=>.ld w 0 0 O<|.uq O<|.kl 0 2 O<|.cb h O (λh=>.g 11 O<|.kl 0 2 O<|hz h m d▸.rv O O ⟨O,O⟩ zw) λh=>.sn<|.k 1 O<|.bh () h x O O zw) λh=>.xx<|.EK () () (hxd h m) trivial (zl [] 2 O))<|λi S y=>by subst y;have d:=KF d;exact .g 11 O<|ij d▸.rv O O ⟨O,O⟩ zw
def wE[AX](c:tM)(u:zB)(v:yB)(a:zD)(b:zE)(d:zH)(H:zG):Option (zH×Bool):=
 bnd (vZ c.a) λw=>bnd (oN a 3) λi=>bnd (vZ c.b) λy=>bnd (nF d 3) λj=>bnd (bif((i.length:Int) !=(j.length:Int))then some (true,d)else bnd (vZ c.a) λA=>bnd (qE a) λk=>bnd (vZ c.b) λB=>bnd (mI d) λS=>bif(k !=S)then some (true,d)else bnd (vZ c.a) λC=>bnd (sM a) λo=>bnd (vZ c.b) λD=>bnd (wJ d) λf=>bnd (lZ o f.2) λn=>bif !n then some (true,f.1)else bnd (vZ c.a) λE=>bnd (wU a) λm=>bnd (vZ c.b) λF=>bnd (uM f.1) λq=>bnd (U5 m q) λr=>some (!r,f.1):Option (Bool×zH)) λe=>bif e.1 then some (e.2,false)else bnd (zZ (τ:=(zH×Bool)⊕Unit) (λ(h:Int)=>bif decide (h<(i.length:Int))then bnd (CO i h) λx=>bnd (CO j h) λs=>bif(x !=s)then some (.done (.inl (e.2,false)))else(some (.next (wrap .i64 (h+1))))else some (.done (.inr ()))) 0) λt=>xX t λG=>some (e.2,true)
def uG{t:Nat}{u:Nat}{w:Nat}{x:Nat}{y:Nat}{z:Nat}[AX]{b1 Z a0 V a9 a b2 b3 W b0 X}(g:wE b1 Z a0 V a9 a b2=some X):DI 35 [BX u] [BH A f b1.needs,BH G o V.needs,BM H m V.load.Have,AB I q V.load.Data,BP J r V.order,BH L U a.needs,BM M Y a.AZ.Have,AB N i1 a.AZ.Data,BP P i4 a.order,ED Q t b2.Keys,FZ u b1 w x y W A f,BL w Z B e C h,AL B e Z.bytes,AY C h Z.BO,BN x a0 D i E j,AL D i a0.Data,AY E j a0.EN,BI y V z F S G o H m I q J r,AU F S V.devices,CP z a9 w b3,.res (xF (yW .u8) (DN BQ) b3 a9.all),BJ W a b0 K T L U M Y N i1 P i4,AU K T a.devices,BZ b0 b2 x Q t] (λv e0=>∃b5 b6 b7 b8 c d l a6 a7 a8,v=.bool X.2/\e0=[BH b7 b8 X.1.needs,BM c d X.1.AZ.Have,AB l a6 X.1.AZ.Data,BP a7 a8 X.1.order,FZ u b1 w x y W A f,BL w Z B e C h,AL B e Z.bytes,AY C h Z.BO,BN x a0 D i E j,AL D i a0.Data,AY E j a0.EN,BI y V z F S G o H m I q J r,AU F S V.devices,CP z a9 w b3,.res (xF (yW .u8) (DN BQ) b3 a9.all),BJ W X.1 b0 b5 b6 b7 b8 c d l a6 a7 a8,AU b5 b6 X.1.devices,BZ b0 b2 x Q t]):=by unfold wE at g;exact CW.iz O λs g3=>.g 211 O<|.BU (iN [0,4,8,13,20,24,28,32,19,39,40,44] .nil) _ mixed (by kernel_rfl) zw<|.yn 3 O<|.yx 2 10 O<|.yn 3 O<|.yl 3 10 O<|.CU<|.bd g λg4 e1 g=>by exact .ss 9 (xY e1)<|.bd g λg5 e2 g=>.cr 25 [3,4,5,6] [17,17] 0 (zDO (f:=y) e2) O λb5 b6=>.xk (zl [3,3,3,3,3,3,3,3,3,3,3,3,3,3,3,3,3,0,0] 1 O)<|.CU<|.bd g λg6 e3 g=>by exact .ss 14 (xY e3)<|.bd g λg7 e4 g=>.cr 26 [10,11,12,13] [22,22] 0 (zEa (f:=W) e4) O λb7 b8=>.xk (zl [6,6,6,6,6,6,6,6,6,6,6,6,6,6,6,6,6,3,3,4,4,0,0] 2 O)<|.yn 2 O<|.DF<|.tn<|.g 22 O<|.bd g λb R g=>.ck 15 (λ(k:VO)=>[3,4,.s 61 (.bool b.1)]) (λk=>[BP k.2.2.2.2.2.2.2.2.1 k.2.2.2.2.2.2.2.2.2 b.2.order,AB k.2.2.2.2.2.2.1 k.2.2.2.2.2.2.2.1 b.2.AZ.Data,BM k.2.2.2.2.1 k.2.2.2.2.2.1 b.2.AZ.Have,BH k.2.2.1 k.2.2.2.1 b.2.needs,AU k.1 k.2.1 b.2.devices,BJ W b.2 b0 k.1 k.2.1 k.2.2.1 k.2.2.2.1 k.2.2.2.2.1 k.2.2.2.2.2.1 k.2.2.2.2.2.2.1 k.2.2.2.2.2.2.2.1 k.2.2.2.2.2.2.2.2.1 k.2.2.2.2.2.2.2.2.2,2,3,4,5,6,7,8,9,10]) O O (.BU (iN [0,4,8,12,16,20,24,28,32,37,44,48,52,56,43,63,64,68,72,76,80,84,89,96,100,104,108,95,115,119,120,124,128,132,136,140,145,152,156,160,164,151,171,175,176,180] .nil) _ mixed (by kernel_rfl) (zl [] 2 O)<|.yn 6 O<|.sB 21 R O (λR=>.yn 40 O<|.DF<|ij R▸(.th<|.hE (K,T,L,U,M,Y,N,i1,P,i4) O (zl [14,13,12,11,1] 0 O))) λR=>.yn 3 O<|.LX O O<|.yx 2 16 O<|.yn 3 O<|.LX O O<|.yl 3 14 O<|.LX O O<|.CU<|.bd R λg8 e5 R=>by exact .ss 25 (xY e5)<|.bd R λg9 e6 R=>.cq 26 [7,8,9,10] [3,3] 0 (bV (f:=y) e6) O<|.xk (zl [4,0,0] 2 O)<|.LX O O<|.CU<|.bd R λh0 e7 R=>by exact .ss 30 (xY e7)<|.bd R λh1 e8 R=>.cq 26 [11,12,13,14] [2,2] 0 (zFw (f:=W) e8) O<|.xk (zl [4] 2 O)<|.yn 3 O<|.sB 34 R O (λR=>.yn 27 O<|.DF<|ij R▸(.th<|.hE (K,T,L,U,M,Y,N,i1,P,i4) O (zl [14,13,12,11,1,0,2] 0 O))) λR=>.yn 3 O<|.LX O O<|.yx 2 16 O<|.yn 3 O<|.LX O O<|.yl 3 14 O<|.LX O O<|.CU<|.bd R λh2 e9 R=>by exact .ss 38 (xY e9)<|.bd R λh3 f0 R=>.cr 27 [7,8,9,10] [2,2] 0 (eV (f:=y) f0) O λh4 h5=>.xk (zl [5,0,0] 3 O)<|.LX O O<|.CU<|.bd R λh6 f1 R=>by exact .ss 43 (xY f1)<|.bd R λh7 f2 R=>.call (kK (f:=W) f2) O O O O (zd [12,13,14,15] [3,3] 0 O)<|by rintro _ _ ⟨c5,c6,c7,c8,c9,d0,d1,d2,d3,d4,h8,h9,rfl,rfl⟩;exact .nm 32 O<|.xk (zl [10,7,7] 8 O)<|.LX O O<|.CU<|.BF (λ_ s=>(s.sl [9] 0 O).JW)<|.BF (λ_ s=>(s.sl [7] 0 O).JW)<|.bd R λj0 f3 R=>.cv [1,0] (zDx f3) O<|.xk (zl [10] 8 O)<|.yn 3 O<|.sB 48 R O (λR=>.yn 13 O<|.DF<|ij R▸(.th<|.hE (c5,c6,c7,c8,c9,d0,d1,d2,d3,d4) O (zl [5,4,3,2,3,2,4,2,2,2,2,2,2,2,2] 6 O))) λR=>.yn 3 O<|.LX O O<|.yx 2 22 O<|.yn 3 O<|.LX O O<|.yl 3 14 O<|.LX O O<|.CU<|.bd R λj1 f4 R=>by exact .ss 52 (xY f4)<|.bd R λj2 f5 R=>.cr 33 [13,14,15,16] [8,8] 0 (sC (f:=y) f5) O λj3 j4=>.xk (zl [11,0,0] 9 O)<|.LX O O<|.CU<|.bd R λj5 f6 R=>by exact .ss 57 (xY f6)<|.bd R λj6 f7 R=>.cr 34 [7,8,9,10] [9,9] 0 (sK (f:=W) f7) O λj7 j8=>.xk (zl [12,3,3] 10 O)<|.LX O O<|.CU<|.BF (λ_ s=>(s.sl [5] 0 O).CZ)<|.BF (λ_ s=>(s.sl [3] 0 O).CZ)<|.bd R λj9 f8 R=>.cv [1,0] (zPa f8) O<|.xk (zl [12,4,4] 10 O)<|.yn 2 O<|.DF<|ij R▸(.th<|.hE (c5,c6,c7,c8,c9,d0,d1,d2,d3,d4) O (zl [11,10,9,8,3,2,6,2,2,4,4,4,4,4,4] 8 O)))<|λ⟨c,d,l,a6,a7,a8,b9,c0,p,c2⟩=>.cb g O (λg=>.g 11 O<|.pg [0,0,0,0,0,0,1,1] 2 O<|ij g▸.rv O O ⟨c,d,l,a6,a7,a8,b9,c0,p,c2,O,O⟩ (zk 18 10 [17,16,15,14] [14,14,14,14,14,14,14,6,6,12,12,5,4,10] 0 O)) λg=>.g 1121 O<|.bd g λf9 g0 g=>.cj 10 (λ(b4:Unit) (d5:Unit)=>[]) (λb4 d5=>[0,1,2,3,4,5,7,8]) O O (λb4=>f9=.inr b4) (.lp g0 () 0 (λ(c3:Int) (d6:Unit)=>[3,4,63,.s 64 (AO c3)]) (λc3 d6=>[]) O O O zw<|λc3 d6 k0 g1 d7 n=>.g 211 O<|.cb n O (λn=>.g 21 O<|.bk<|.g 211 O<|.regionF mixed (by kernel_rfl)<|.n 2 O<|.bd n λk1 d8 n=>.SY d8 9 O λk2 c4=>by subst c4;exact .QT 0 d8 O O (zm 9 O) O O<|.n 2 O<|.bd n λk3 d9 n=>.SY d9 6 O λk4 c4=>by subst c4;exact .QT 0 d9 O O (zm 6 O) O O<|.uq O<|.cb n O (λn=>.g 11 O<|.pg [0,0,0,0,0,0,1,1] 2 O<|hz n d7 g▸.rv O O ⟨c,d,l,a6,a7,a8,b9,c0,p,c2,O,O⟩ (zk 18 10 [17,16,15,14] [14,14,14,14,14,14,14,6,6,12,12,5,4,10] 0 O)) λn=>.sn<|.k 1 O<|.bh () n g1 O O zw) λn=>.xx<|.EK () () (hxd n d7) trivial (zl [0,0,0,0,0,0,1,1] 2 O))<|λb4 d5 g2=>by subst g2;have g:=KF g;exact .g 11 O<|ij g▸.rv O O ⟨c,d,l,a6,a7,a8,b9,c0,p,c2,O,O⟩ (zk 18 10 [17,16,15,14] [14,14,14,14,14,14,14,6,6,12,12,5,4,10] 0 O)
def vG[AX](l:tM)(V:zB)(W:yB)(b:zD)(n:zE)(a:zH)(d:zG):Option (tM×zB×yB×zH×Bool×(Option (zE×zG×zD×zH))):=
 bnd (vZ l.a) λL=>bnd (sM b) λo=>bnd (vZ l.b) λM=>bnd (wJ a) λh=>bnd (lZ o h.2) λE=>bif !E then some (l,V,W,h.1,false,none)else bnd (vZ l.d) λN=>bnd (uL V) λF=>bnd (vZ l.f) λP=>bnd (tE W) λG=>bnd (tW l o h.2 F G b n h.1 d) λf=>eN f.2.2.2.2.2 (bif(f.2.2.2.1==10)then bnd (vZ f.1.d) λQ=>bnd (uL f.2.1) λH=>bnd (vZ f.1.f) λR=>bnd (tE f.2.2.1) λI=>bnd (tW f.1 o h.2 H I b n h.1 d) λi=>eN i.2.2.2.2.2 (bnd (bif i.2.2.2.2.1 then bif(i.2.2.2.1==0)then bnd (wE i.1 i.2.1 i.2.2.1 b n h.1 d) λs=>some (s.2,s.1)else(some (false,h.1))else some (false,h.1):Option (Bool×zH)) λt=>some (i.1,i.2.1,i.2.2.1,t.2,t.1,none)) (λS=>bnd (bif i.2.2.2.2.1 then bif(i.2.2.2.1==0)then bnd (wE i.1 i.2.1 i.2.2.1 S.2.2.1 S.1 S.2.2.2 S.2.1) λu=>some (u.2,u.1)else(some (false,S.2.2.2))else some (false,S.2.2.2):Option (Bool×zH)) λv=>some (i.1,i.2.1,i.2.2.1,h.1,v.1,(some (S.1,S.2.1,S.2.2.1,v.2))))else bnd (bif f.2.2.2.2.1 then bif(f.2.2.2.1==0)then bnd (wE f.1 f.2.1 f.2.2.1 b n h.1 d) λm=>some (m.2,m.1)else(some (false,h.1))else some (false,h.1):Option (Bool×zH)) λq=>some (f.1,f.2.1,f.2.2.1,q.2,q.1,none)) (λe=>bif(f.2.2.2.1==10)then bnd (vZ f.1.d) λT=>bnd (uL f.2.1) λJ=>bnd (vZ f.1.f) λU=>bnd (tE f.2.2.1) λK=>bnd (tW f.1 o h.2 J K e.2.2.1 e.1 e.2.2.2 e.2.1) λj=>eN j.2.2.2.2.2 (bnd (bif j.2.2.2.2.1 then bif(j.2.2.2.1==0)then bnd (wE j.1 j.2.1 j.2.2.1 e.2.2.1 e.1 e.2.2.2 e.2.1) λr=>some (r.2,r.1)else(some (false,e.2.2.2))else some (false,e.2.2.2):Option (Bool×zH)) λx=>some (j.1,j.2.1,j.2.2.1,h.1,x.1,(some (e.1,e.2.1,e.2.2.1,x.2)))) (λk=>bnd (bif j.2.2.2.2.1 then bif(j.2.2.2.1==0)then bnd (wE j.1 j.2.1 j.2.2.1 k.2.2.1 k.1 k.2.2.2 k.2.1) λA=>some (A.2,A.1)else(some (false,k.2.2.2))else some (false,k.2.2.2):Option (Bool×zH)) λB=>some (j.1,j.2.1,j.2.2.1,h.1,B.1,(some (k.1,k.2.1,k.2.2.1,B.2))))else bnd (bif f.2.2.2.2.1 then bif(f.2.2.2.1==0)then bnd (wE f.1 f.2.1 f.2.2.1 e.2.2.1 e.1 e.2.2.2 e.2.1) λC=>some (C.2,C.1)else(some (false,e.2.2.2))else some (false,e.2.2.2):Option (Bool×zH)) λD=>some (f.1,f.2.1,f.2.2.1,h.1,D.1,(some (e.1,e.2.1,e.2.2.1,D.2))))
end
section
def cC{p:Nat}{q:Nat}{r:Nat}{t:Nat}{w:Nat}{x:Nat}{y:Nat}{z:Nat}[AX]{j2 e6 e7 b4 c5 c6 e4 d3 a2 T U g}(R:vG j2 e6 e7 b4 c5 c6 e4=some g):DI 34 [BX w] [BH A f j2.needs,BH G o b4.needs,BM H m b4.load.Have,AB I Y b4.load.Data,BP J i1 b4.order,BH L i7 c6.needs,BM M p c6.AZ.Have,AB N q c6.AZ.Data,BP P r c6.order,ED Q t e4.Keys,.ro (WR 0 [(2,some 296),(3,some 297)]),FZ w j2 x y z T A f,BL x e6 B e C h,AL B e e6.bytes,AY C h e6.BO,BN y e7 D i E j,AL D i e7.Data,AY E j e7.EN,BI z b4 a2 F S G o H m I Y J i1,AU F S b4.devices,CP a2 c5 x d3,.res (xF (yW .u8) (DN BQ) d3 c5.all),BJ T c6 U K i4 L i7 M p N q P r,AU K i4 c6.devices,BZ U e4 y Q t] (yu g.2.2.2.2.2 (λv j3=>∃d4 d5 c d a6 a7 a8 a9 b0 b1 b2 b3 d6 d7 d8 d9 e0 e1 e2 e3,v=.bool g.2.2.2.2.1/\j3=[BH d4 d5 g.1.needs,BH d6 d7 g.2.2.2.1.needs,BM d8 d9 g.2.2.2.1.AZ.Have,AB e0 e1 g.2.2.2.1.AZ.Data,BP e2 e3 g.2.2.2.1.order,FZ w g.1 x y z T d4 d5,BL x g.2.1 c d a6 a7,AL c d g.2.1.bytes,AY a6 a7 g.2.1.BO,BN y g.2.2.1 a8 a9 b0 b1,AL a8 a9 g.2.2.1.Data,AY b0 b1 g.2.2.1.EN,BI z b4 a2 F S G o H m I Y J i1,AU F S b4.devices,CP a2 c5 x d3,.res (xF (yW .u8) (DN BQ) d3 c5.all),BJ T g.2.2.2.1 U b2 b3 d6 d7 d8 d9 e0 e1 e2 e3,AU b2 b3 g.2.2.2.1.devices,BZ U e4 y Q t]) (λb v j3=>∃c3 l c4 c2 d4 d5 c d a6 a7 a8 a9 b0 b1 b2 b3 d6 d7 d8 d9 e0 e1 e2 e3 e5 j4 j5 e8 e9 f0 f1 f2 f3 f4 f5 f6 f7 f8 f9 g0 g1 g2 g3 g4 g5 g6 g7,v=.bool g.2.2.2.2.1/\j3=[BH d4 d5 g.1.needs,BH d6 d7 g.2.2.2.1.needs,BM d8 d9 g.2.2.2.1.AZ.Have,AB e0 e1 g.2.2.2.1.AZ.Data,BP e2 e3 g.2.2.2.1.order,ED j4 j5 b.2.1.Keys,BH f0 f1 b.2.2.1.needs,BM f2 f3 b.2.2.1.load.Have,AB f4 f5 b.2.2.1.load.Data,BP f6 f7 b.2.2.1.order,BH g0 g1 b.2.2.2.needs,BM g2 g3 b.2.2.2.AZ.Have,AB g4 g5 b.2.2.2.AZ.Data,BP g6 g7 b.2.2.2.order,FZ w g.1 x y c4 c2 d4 d5,BL x g.2.1 c d a6 a7,AL c d g.2.1.bytes,AY a6 a7 g.2.1.BO,BN y g.2.2.1 a8 a9 b0 b1,AL a8 a9 g.2.2.1.Data,AY b0 b1 g.2.2.1.EN,BI z b4 a2 F S G o H m I Y J i1,AU F S b4.devices,CP a2 c5 x d3,.res (xF (yW .u8) (DN BQ) d3 c5.all),BJ T g.2.2.2.1 U b2 b3 d6 d7 d8 d9 e0 e1 e2 e3,AU b2 b3 g.2.2.2.1.devices,BZ U e4 y Q t,CP c3 b.1 x e5,.res (xF (yW .u8) (DN BQ) e5 b.1.all),BZ l b.2.1 y j4 j5,BI c4 b.2.2.1 c3 e8 e9 f0 f1 f2 f3 f4 f5 f6 f7,AU e8 e9 b.2.2.1.devices,BJ c2 b.2.2.2 l f8 f9 g0 g1 g2 g3 g4 g5 g6 g7,AU f8 f9 b.2.2.2.devices])):=by unfold vG at R;exact CW.iz O λg8 b03=>.g 211 O<|.BU (iN [0,4,8,13,20,24,28,32,19,39,40,44] .nil) _ mixed (by kernel_rfl) (zl [0,0,0,0,0,0,0,0,0,0,0,0,0,0,0,0,0,0,0,0,0,0] 2 O)<|.yn 3 O<|.yx 2 11 O<|.yn 3 O<|.yl 3 11 O<|.CU<|.bd R λb04 n8 R=>by exact .ss 10 (xY n8)<|.bd R λb05 n9 R=>.cr 26 [3,4,5,6] [18,18] 0 (eV (f:=z) n9) O λd4 d5=>.xk (zl [3,3,3,3,3,3,3,3,3,3,3,3,3,3,3,3,3,3,0,0,1,1] 3 O)<|.CU<|.bd R λb06 o0 R=>by exact .ss 15 (xY o0)<|.bd R λb07 o1 R=>.call (kK (f:=T) o1) O O O O (zd [10,11,12,13] [23,23] 0 O)<|by rintro _ _ ⟨c,d,a6,a7,a8,a9,b0,b1,b2,b3,d6,d7,rfl,rfl⟩;exact .nm 31 O<|.xk (zl [10,10,10,10,10,10,10,10,10,10,10,10,10,10,10,10,10,10,7,7] 8 O)<|.yn 2 O<|.DF<|.tn<|.kl 15 4 O<|.k 312 O<|.BF (λ_ g8=>(g8.sl [9] 0 O).JW)<|.BF (λ_ g8=>(g8.sl [7] 0 O).JW)<|.bd R λb08 o2 R=>.cv [1,0] (zDx o2) O<|.u 1 O<|.cb R O (λR=>.g 11 O<|.kl 0 2 O<|ij R▸.rv O O (wA ⟨A,f,B,e,C,h,D,i,E,j,c,d,a6,a7,a8,a9,b0,b1,b2,b3,O,O⟩) (zk 19 11 [18,14,15,16,17] [15,15,15,15,15,15,15,6,6,13,13,4,4,11] 0 O)) λR=>.k 411 O<|.lb 0 17 O<|.bd R λb09 o3 R=>by exact .ss 24 (xY o3)<|.bd R λb10 o4 R=>.ct 27 [] [18,18,18] 0 (lQ o4) O λd8 d9 e0 e1=>.v 411 O<|.lb 1 20 O<|.bd R λb11 o5 R=>by exact .ss 29 (xY o5)<|.bd R λb12 o6 R=>.ct 27 [] [21,21,21] 0 (kL o6) O λe2 e3 j4 j5=>.v 411 O<|.bd R λo7 o8 R=>.call (jT (y:=w) (z:=x) (X:=y) (b8:=z) (a6:=a2) (b9:=T) (a7:=U) o8) O O O O (zd [20,15,14,21,22,23,24,16,17,18,19,25,26] [23,3,3,3,0,0,0,8,8,15,15,6,6,13] 0 O)<|λk0 k1 a=>by rcases g9:o7.2.2.2.2.2 with _|b13;(replace a:=iY g9 a;replace R:=oJ g9 R;obtain⟨e8,e9,f0,f1,f2,f3,f4,f5,f6,f7,rfl,rfl⟩:=a;exact .nm 28 O<|.u 1 O<|.kl 21 1 O<|.g 112 O<|.cb R O (λR=>.k 41 O<|.lb 0 1 O<|.bd R λb14 o9 R=>by exact .ss 43 (xY o9)<|.bd R λb15 p0 R=>.ct 27 [] [2,2,2] 0 (lQ p0) O λb16 b17 b18 b19=>.v 411 O<|.lb 1 4 O<|.bd R λb20 p1 R=>by exact .ss 48 (xY p1)<|.bd R λb21 p2 R=>.ct 27 [] [5,5,5] 0 (kL p2) O λb22 b23 b24 b25=>.v 411 O<|.bd R λp3 p4 R=>.call (jT (y:=w) (z:=x) (X:=y) (b8:=z) (a6:=a2) (b9:=T) (a7:=U) p4) O O O O (zd [14,16,15,21,22,23,24,17,18,19,20,25,26] [7,3,3,3,0,0,0,1,1,1,1,1,1,1] 0 O)<|λk0 k1 a=>by rcases h0:p3.2.2.2.2.2 with _|b26;(replace a:=iY h0 a;replace R:=oJ h0 R;obtain⟨p5,p6,p7,p8,p9,q0,q1,q2,q3,q4,rfl,rfl⟩:=a;exact .nm 28 O<|.u 1 O<|.kl 15 3 O<|.g 2 O<|.bd R λc7 b5 R=>.ck 19 (λ(V:VO)=>[.s 2 (.bool c7.1)]) (λV=>[BP V.2.2.2.2.2.2.2.2.1 V.2.2.2.2.2.2.2.2.2 c7.2.order,AB V.2.2.2.2.2.2.1 V.2.2.2.2.2.2.2.1 c7.2.AZ.Data,BM V.2.2.2.2.1 V.2.2.2.2.2.1 c7.2.AZ.Have,BH V.2.2.1 V.2.2.2.1 c7.2.needs,AU V.1 V.2.1 c7.2.devices,0,1,2,3,4,5,6,7,8,9,10,11,BJ T c7.2 U V.1 V.2.1 V.2.2.1 V.2.2.2.1 V.2.2.2.2.1 V.2.2.2.2.2.1 V.2.2.2.2.2.2.1 V.2.2.2.2.2.2.2.1 V.2.2.2.2.2.2.2.2.1 V.2.2.2.2.2.2.2.2.2,14]) O O (.k 31 O<|.gs 58 b5 O (λb5=>.n 4 O<|.gs 62 b5 O (λb5=>.n 1 O<|.CV O O<|.bd b5 λb27 q5 b5=>.call (uG (u:=w) (w:=x) (x:=y) (y:=z) (z:=a2) (W:=T) (b0:=U) q5) O O O O (zd [14,19,20,21,22,15,16,17,18,23] [1,1,1,1,1,1,1,1,1,1,1,1,1,1] 0 O)<|by rintro _ _ ⟨q6,q7,q8,q9,r0,r1,r2,r3,r4,r5,rfl,rfl⟩;exact .nm 29 O<|ij b5▸.bE (q6,q7,q8,q9,r0,r1,r2,r3,r4,r5) O O (zl [3,2,1,0,12,13,0,0,0,0,0,0,0,0,0,0,0,0,0] 4 O)) λb5=>ij b5▸.bE (c,d,a6,a7,a8,a9,b0,b1,b2,b3) O O (zl [18,17,16,15,13] 0 O)) λb5=>ij b5▸.bE (c,d,a6,a7,a8,a9,b0,b1,b2,b3) O O (zl [18,17,16,15,13] 0 O))<|λ⟨r6,r7,r8,r9,s0,s1,s2,s3,s4,s5⟩=>ij R▸.rv O O (wA ⟨p5,p6,p7,p8,p9,q0,q1,q2,q3,q4,r6,r7,r8,r9,s0,s1,s2,s3,s4,s5,O,O⟩) (zk 19 11 [18,17,16,15,14] [6,6,6,6,6,6,6,6,6,6,6,6,4,5] 0 O));(replace a:=pJ h0 a;replace R:=oB h0 R;obtain⟨k2,j6,k3,j7,s6,s7,s8,s9,t0,t1,t2,t3,t4,t5,t6,t7,t8,t9,v0,v1,v2,v3,v4,v5,v6,v7,v8,k4,k5,k6,k7,k8,k9,l0,l1,l2,l3,rfl,rfl⟩:=a;exact .nm 44 O<|.u 1 O<|.kl 31 3 O<|.g 2 O<|.bd R λc8 b6 R=>.ck 31 (λ(W:VO)=>[.s 2 (.bool c8.1)]) (λW=>[BP W.2.2.2.2.2.2.2.2.1 W.2.2.2.2.2.2.2.2.2 c8.2.order,AB W.2.2.2.2.2.2.1 W.2.2.2.2.2.2.2.1 c8.2.AZ.Data,BM W.2.2.2.2.1 W.2.2.2.2.2.1 c8.2.AZ.Have,BH W.2.2.1 W.2.2.2.1 c8.2.needs,AU W.1 W.2.1 c8.2.devices,0,1,2,3,4,5,10,11,12,13,14,15,16,17,18,19,20,21,22,23,24,25,26,27,28,BJ j7 c8.2 j6 W.1 W.2.1 W.2.2.1 W.2.2.2.1 W.2.2.2.2.1 W.2.2.2.2.2.1 W.2.2.2.2.2.2.1 W.2.2.2.2.2.2.2.1 W.2.2.2.2.2.2.2.2.1 W.2.2.2.2.2.2.2.2.2]) O O (.k 31 O<|.gs 58 b6 O (λb6=>.n 4 O<|.gs 62 b6 O (λb6=>.n 1 O<|.CV O O<|.bd b6 λb28 v9 b6=>.call (uG (u:=w) (w:=x) (x:=y) (y:=k3) (z:=k2) (W:=j7) (b0:=j6) v9) O O O O (zd [14,16,17,18,19,20,21,22,23,15] [10,10,10,10,10,10,10,20,20,17,17,18,18,17] 0 O)<|by rintro _ _ ⟨w0,w1,w2,w3,w4,w5,w6,w7,w8,w9,rfl,rfl⟩;exact .nm 45 O<|ij b6▸.bE (w0,w1,w2,w3,w4,w5,w6,w7,w8,w9) O O (zl [3,2,1,0,12,13,13,13,13,13,13,0,0,0,0,0,0,0,10,10,10,10,10,10,10,2,2,3,0,0,0] 4 O)) λb6=>ij b6▸.bE (k4,k5,k6,k7,k8,k9,l0,l1,l2,l3) O O (zl [9,8,7,6,26] 0 O)) λb6=>ij b6▸.bE (k4,k5,k6,k7,k8,k9,l0,l1,l2,l3) O O (zl [9,8,7,6,26] 0 O))<|λ⟨x0,x1,x2,x3,x4,x5,x6,x7,x8,x9⟩=>ij R▸.rv O O (qD ⟨k2,j6,k3,j7,s6,s7,s8,s9,t0,t1,t2,t3,t4,t5,c,d,a6,a7,a8,a9,b0,b1,b2,b3,t6,t7,t8,t9,v0,v1,v2,v3,v4,v5,v6,v7,v8,x0,x1,x2,x3,x4,x5,x6,x7,x8,x9,O,O⟩) (zk 35 20 [25,31,32,33,34,26,27,28,29,30,24,23,22,21] [11,11,11,11,11,11,11,11,11,11,11,11,11,11,11,11,11,11,11,11,4] 0 O))) λR=>.g 1 O<|.kl 15 2 O<|.g 2 O<|.bd R λc9 b7 R=>.ck 19 (λ(X:VO)=>[.s 2 (.bool c9.1)]) (λX=>[BP X.2.2.2.2.2.2.2.2.1 X.2.2.2.2.2.2.2.2.2 c9.2.order,AB X.2.2.2.2.2.2.1 X.2.2.2.2.2.2.2.1 c9.2.AZ.Data,BM X.2.2.2.2.1 X.2.2.2.2.2.1 c9.2.AZ.Have,BH X.2.2.1 X.2.2.2.1 c9.2.needs,AU X.1 X.2.1 c9.2.devices,0,1,2,3,4,5,6,7,8,9,10,11,BJ T c9.2 U X.1 X.2.1 X.2.2.1 X.2.2.2.1 X.2.2.2.2.1 X.2.2.2.2.2.1 X.2.2.2.2.2.2.1 X.2.2.2.2.2.2.2.1 X.2.2.2.2.2.2.2.2.1 X.2.2.2.2.2.2.2.2.2,14]) O O (.k 31 O<|.gs 58 b7 O (λb7=>.n 4 O<|.gs 62 b7 O (λb7=>.n 1 O<|.CV O O<|.bd b7 λb29 y0 b7=>.call (uG (u:=w) (w:=x) (x:=y) (y:=z) (z:=a2) (W:=T) (b0:=U) y0) O O O O (zd [14,19,20,21,22,15,16,17,18,23] [1,1,1,1,1,1,1,1,1,1,1,1,1,1] 0 O)<|by rintro _ _ ⟨y1,y2,y3,y4,y5,y6,y7,y8,y9,z0,rfl,rfl⟩;exact .nm 29 O<|ij b7▸.bE (y1,y2,y3,y4,y5,y6,y7,y8,y9,z0) O O (zl [3,2,1,0,12,13,0,0,0,0,0,0,0,0,0,0,0,0,0] 4 O)) λb7=>ij b7▸.bE (c,d,a6,a7,a8,a9,b0,b1,b2,b3) O O (zl [18,17,16,15,13] 0 O)) λb7=>ij b7▸.bE (c,d,a6,a7,a8,a9,b0,b1,b2,b3) O O (zl [18,17,16,15,13] 0 O))<|λ⟨z1,z2,z3,z4,z5,z6,z7,z8,z9,a00⟩=>ij R▸.rv O O (wA ⟨e8,e9,f0,f1,f2,f3,f4,f5,f6,f7,z1,z2,z3,z4,z5,z6,z7,z8,z9,a00,O,O⟩) (zk 19 11 [18,17,16,15,14] [6,6,6,6,6,6,6,6,6,6,6,6,4,5] 0 O));(replace a:=pJ g9 a;replace R:=oB g9 R;obtain⟨c3,l,c4,c2,f8,f9,g0,g1,g2,g3,g4,g5,g6,g7,e5,l4,l5,l6,l7,l8,l9,m0,m1,m2,m3,m4,m5,h1,h2,h3,h4,h5,h6,h7,h8,h9,j0,rfl,rfl⟩:=a;exact .nm 44 O<|.u 1 O<|.kl 37 1 O<|.g 112 O<|.cb R O (λR=>.k 41 O<|.lb 0 10 O<|.bd R λb30 a01 R=>by exact .ss 43 (xY a01)<|.bd R λb31 a02 R=>.ct 43 [] [11,11,11] 0 (lQ a02) O λb32 b33 b34 b35=>.v 411 O<|.lb 1 13 O<|.bd R λb36 a03 R=>by exact .ss 48 (xY a03)<|.bd R λb37 a04 R=>.ct 43 [] [14,14,14] 0 (kL a04) O λb38 b39 b40 b41=>.v 411 O<|.bd R λa05 a06 R=>.call (jT (y:=w) (z:=x) (X:=y) (b8:=c4) (a6:=c3) (b9:=c2) (a7:=l) a06) O O O O (zd [14,32,31,16,17,18,19,20,21,22,23,15,42] [16,3,3,3,0,0,0,20,20,17,17,18,18,17] 0 O)<|λk0 k1 a=>by rcases j1:a05.2.2.2.2.2 with _|b42;(replace a:=iY j1 a;replace R:=oJ j1 R;obtain⟨a07,a08,a09,a10,a11,a12,a13,a14,a15,a16,rfl,rfl⟩:=a;exact .nm 44 O<|.u 1 O<|.pg [0,0,0,0,0,0,0,0,0,0,0,0,0,0,0,1,1,1,1,1,1,1,1,1,1,1,1,1,1,1,1] 3 O<|.g 2 O<|.bd R λd0 b8 R=>.ck 24 (λ(k:VO)=>[.s 2 (.bool d0.1)]) (λk=>[BP k.2.2.2.2.2.2.2.2.1 k.2.2.2.2.2.2.2.2.2 d0.2.order,AB k.2.2.2.2.2.2.1 k.2.2.2.2.2.2.2.1 d0.2.AZ.Data,BM k.2.2.2.2.1 k.2.2.2.2.2.1 d0.2.AZ.Have,BH k.2.2.1 k.2.2.2.1 d0.2.needs,AU k.1 k.2.1 d0.2.devices,0,1,2,3,4,5,6,7,8,9,10,11,BJ c2 d0.2 l k.1 k.2.1 k.2.2.1 k.2.2.2.1 k.2.2.2.2.1 k.2.2.2.2.2.1 k.2.2.2.2.2.2.1 k.2.2.2.2.2.2.2.1 k.2.2.2.2.2.2.2.2.1 k.2.2.2.2.2.2.2.2.2,14,15,16,17,18,19]) O O (.k 31 O<|.gs 58 b8 O (λb8=>.n 4 O<|.gs 62 b8 O (λb8=>.n 1 O<|.CV O O<|.bd b8 λb43 a17 b8=>.call (uG (u:=w) (w:=x) (x:=y) (y:=c4) (z:=c3) (W:=c2) (b0:=l) a17) O O O O (zd [14,16,17,18,19,20,21,22,23,15] [1,1,1,1,1,1,1,1,1,1,1,1,1,1] 0 O)<|by rintro _ _ ⟨a18,a19,a20,a21,a22,a23,a24,a25,a26,a27,rfl,rfl⟩;exact .nm 45 O<|ij b8▸.bE (a18,a19,a20,a21,a22,a23,a24,a25,a26,a27) O O (zl [3,2,1,0,12,13,0,0,0,0,0,0,0,0,0,0,0,0,0,0,0,0,0,0] 4 O)) λb8=>ij b8▸.bE (h1,h2,h3,h4,h5,h6,h7,h8,h9,j0) O O (zl [23,22,21,20,13] 0 O)) λb8=>ij b8▸.bE (h1,h2,h3,h4,h5,h6,h7,h8,h9,j0) O O (zl [23,22,21,20,13] 0 O))<|λ⟨a28,a29,a30,a31,a32,a33,a34,a35,a36,a37⟩=>ij R▸.rv O O (qD ⟨c3,l,c4,c2,a07,a08,a09,a10,a11,a12,a13,a14,a15,a16,c,d,a6,a7,a8,a9,b0,b1,b2,b3,e5,l4,l5,l6,l7,l8,l9,m0,m1,m2,m3,m4,m5,a28,a29,a30,a31,a32,a33,a34,a35,a36,a37,O,O⟩) (zk 35 20 [25,31,32,33,34,26,27,28,29,30,24,23,22,21] [6,6,6,6,6,6,6,17,17,17,17,17,17,17,8,8,9,6,6,6,4] 0 O));(replace a:=pJ j1 a;replace R:=oB j1 R;obtain⟨m6,j8,m7,j9,a38,a39,a40,a41,a42,a43,a44,a45,a46,a47,a48,a49,a50,a51,a52,a53,a54,a55,a56,a57,a58,a59,a60,m8,m9,n0,n1,n2,n3,n4,n5,n6,n7,rfl,rfl⟩:=a;exact .nm 60 O<|.u 1 O<|.pg [0,0,0,0,0,0,0,0,0,0,0,0,0,0,0,0,0,7,7,7,7,7,7,7,17,17,17,17,17,17,17] 19 O<|.g 2 O<|.bd R λd1 b9 R=>.ck 24 (λ(Z:VO)=>[.s 2 (.bool d1.1)]) (λZ=>[BP Z.2.2.2.2.2.2.2.2.1 Z.2.2.2.2.2.2.2.2.2 d1.2.order,AB Z.2.2.2.2.2.2.1 Z.2.2.2.2.2.2.2.1 d1.2.AZ.Data,BM Z.2.2.2.2.1 Z.2.2.2.2.2.1 d1.2.AZ.Have,BH Z.2.2.1 Z.2.2.2.1 d1.2.needs,AU Z.1 Z.2.1 d1.2.devices,0,1,2,3,4,5,10,11,12,13,14,15,16,17,18,19,20,21,BJ j9 d1.2 j8 Z.1 Z.2.1 Z.2.2.1 Z.2.2.2.1 Z.2.2.2.2.1 Z.2.2.2.2.2.1 Z.2.2.2.2.2.2.1 Z.2.2.2.2.2.2.2.1 Z.2.2.2.2.2.2.2.2.1 Z.2.2.2.2.2.2.2.2.2]) O O (.k 31 O<|.gs 58 b9 O (λb9=>.n 4 O<|.gs 62 b9 O (λb9=>.n 1 O<|.CV O O<|.bd b9 λb44 a61 b9=>.call (uG (u:=w) (w:=x) (x:=y) (y:=m7) (z:=m6) (W:=j9) (b0:=j8) a61) O O O O (zd [14,16,17,18,19,20,21,22,23,15] [10,10,10,10,10,10,10,13,13,10,10,11,11,10] 0 O)<|by rintro _ _ ⟨a62,a63,a64,a65,a66,a67,a68,a69,a70,a71,rfl,rfl⟩;exact .nm 45 O<|ij b9▸.bE (a62,a63,a64,a65,a66,a67,a68,a69,a70,a71) O O (zl [3,2,1,0,12,13,13,13,13,13,13,0,0,0,0,0,0,0,2,2,3,0,0,0] 4 O)) λb9=>ij b9▸.bE (m8,m9,n0,n1,n2,n3,n4,n5,n6,n7) O O (zl [9,8,7,6,19] 0 O)) λb9=>ij b9▸.bE (m8,m9,n0,n1,n2,n3,n4,n5,n6,n7) O O (zl [9,8,7,6,19] 0 O))<|λ⟨a72,a73,a74,a75,a76,a77,a78,a79,a80,a81⟩=>ij R▸.rv O O (qD ⟨m6,j8,m7,j9,a38,a39,a40,a41,a42,a43,a44,a45,a46,a47,c,d,a6,a7,a8,a9,b0,b1,b2,b3,a48,a49,a50,a51,a52,a53,a54,a55,a56,a57,a58,a59,a60,a72,a73,a74,a75,a76,a77,a78,a79,a80,a81,O,O⟩) (zk 35 20 [25,31,32,33,34,26,27,28,29,30,24,23,22,21] [11,11,11,11,11,11,11,17,17,17,17,17,17,17,11,11,11,11,11,11,4] 0 O))) λR=>.g 1 O<|.kl 31 2 O<|.g 2 O<|.bd R λd2 c0 R=>.ck 31 (λ(a0:VO)=>[.s 2 (.bool d2.1)]) (λa0=>[BP a0.2.2.2.2.2.2.2.2.1 a0.2.2.2.2.2.2.2.2.2 d2.2.order,AB a0.2.2.2.2.2.2.1 a0.2.2.2.2.2.2.2.1 d2.2.AZ.Data,BM a0.2.2.2.2.1 a0.2.2.2.2.2.1 d2.2.AZ.Have,BH a0.2.2.1 a0.2.2.2.1 d2.2.needs,AU a0.1 a0.2.1 d2.2.devices,0,1,2,3,4,5,10,11,12,13,14,15,16,17,18,19,20,21,22,23,24,25,26,27,28,BJ c2 d2.2 l a0.1 a0.2.1 a0.2.2.1 a0.2.2.2.1 a0.2.2.2.2.1 a0.2.2.2.2.2.1 a0.2.2.2.2.2.2.1 a0.2.2.2.2.2.2.2.1 a0.2.2.2.2.2.2.2.2.1 a0.2.2.2.2.2.2.2.2.2]) O O (.k 31 O<|.gs 58 c0 O (λc0=>.n 4 O<|.gs 62 c0 O (λc0=>.n 1 O<|.CV O O<|.bd c0 λb45 a82 c0=>.call (uG (u:=w) (w:=x) (x:=y) (y:=c4) (z:=c3) (W:=c2) (b0:=l) a82) O O O O (zd [14,16,17,18,19,20,21,22,23,15] [10,10,10,10,10,10,10,20,20,17,17,18,18,17] 0 O)<|by rintro _ _ ⟨a83,a84,a85,a86,a87,a88,a89,a90,a91,a92,rfl,rfl⟩;exact .nm 45 O<|ij c0▸.bE (a83,a84,a85,a86,a87,a88,a89,a90,a91,a92) O O (zl [3,2,1,0,12,13,13,13,13,13,13,0,0,0,0,0,0,0,10,10,10,10,10,10,10,2,2,3,0,0,0] 4 O)) λc0=>ij c0▸.bE (h1,h2,h3,h4,h5,h6,h7,h8,h9,j0) O O (zl [9,8,7,6,26] 0 O)) λc0=>ij c0▸.bE (h1,h2,h3,h4,h5,h6,h7,h8,h9,j0) O O (zl [9,8,7,6,26] 0 O))<|λ⟨a93,a94,a95,a96,a97,a98,a99,b00,b01,b02⟩=>ij R▸.rv O O (qD ⟨c3,l,c4,c2,f8,f9,g0,g1,g2,g3,g4,g5,g6,g7,c,d,a6,a7,a8,a9,b0,b1,b2,b3,e5,l4,l5,l6,l7,l8,l9,m0,m1,m2,m3,m4,m5,a93,a94,a95,a96,a97,a98,a99,b00,b01,b02,O,O⟩) (zk 35 20 [25,31,32,33,34,26,27,28,29,30,24,23,22,21] [11,11,11,11,11,11,11,11,11,11,11,11,11,11,11,11,11,11,11,11,4] 0 O))
end
def oX[AX](g:tM)(I:xT)(m:zB)(n:yB)(l:zD)(h:zE)(o:zH)(i:zG):Option (tM×xT×zB×yB×zD×zE×zH×zG×Bool×(Option (zE×zG×zD×zH))):=
 bnd (bnd (yH I 12) λe=>bnd (bif(e.2==0)then some (e.2==0)else some (e.2==1):Option Bool) λJ=>bif J then bnd (vZ g.b) λR=>bnd (wJ o) λB=>bnd (gS e.1 B.2 g.needs) λC=>bnd (rZ g C.1 C.2 m n l h B.1 i) λs=>some (.inl (g,s.1,m,n,s.2.1,h,s.2.2.1,i,s.2.2.2,none))else bnd (bif(e.2==2)then some (e.2==2)else some (e.2==3):Option Bool) λK=>bif K then bnd (vZ g.a) λS=>bnd (xO l h m) λt=>bnd (vZ g.b) λT=>bnd (wD o i n) λu=>some (.inr (t.2.2.2,u.2.2.2,e.1.L,e.1.At,t.2.2.1,u.2.2.1,t.1,t.2.1,u.1,u.2.1))else bnd (bif(e.2==4)then some (e.2==4)else bif(e.2==5)then some (e.2==5)else bif(e.2==6)then some (e.2==6)else some (e.2==7):Option Bool) λM=>bif M then bnd (yH e.1 4) λr=>bnd (vZ g.a) λU=>bnd (xK l (decide (r.2<3)) h m) λp=>bnd (vZ g.b) λV=>bnd (vA o (decide (r.2<3)) i n) λq=>bif(p.2.2.2.1 !=q.2.2.2.1)then some (.inl (g,r.1,p.2.2.1,q.2.2.1,p.1,p.2.1,q.1,q.2.1,false,none))else(some (.inr (p.2.2.2.2,q.2.2.2.2,r.1.L,r.1.At,p.2.2.1,q.2.2.1,p.1,p.2.1,q.1,q.2.1)))else bif(e.2==8)then bnd (vZ g.a) λW=>bnd (qC l) λD=>bnd (vZ g.b) λX=>bnd (sU o) λE=>some (.inr (D.2,E.2,e.1.L,e.1.At,m,n,D.1,h,E.1,i))else bif(e.2==9)then bnd (yH e.1 40) λz=>bnd (yH z.1 256) λv=>bnd (vZ g.d) λY=>bnd (lJ m (wrap .i64 (1+z.2)) (wrap .u8 v.2)) λN=>bnd (vZ g.f) λZ=>bnd (kR n (wrap .i64 (1+z.2)) (wrap .u8 v.2)) λP=>some (.inr (0,0,v.1.L,v.1.At,N,P,l,h,o,i))else bif(e.2==10)then bnd (yH e.1 100) λA=>bnd (yH A.1 70) λw=>bnd (vZ g.a) λa0=>bnd (tX l (wrap .i64 (A.2-5)) w.2) λF=>bnd (vZ g.b) λa1=>bnd (pG o (wrap .i64 (A.2-5)) w.2) λG=>some (.inr (F.2,G.2,w.1.L,w.1.At,m,n,F.1,h,G.1,i))else bif(e.2==11)then bnd (vG g m n l h o i) λj=>eN j.2.2.2.2.2 (some (.inl (j.1,e.1,j.2.1,j.2.2.1,l,h,j.2.2.2.1,i,j.2.2.2.2.1,none))) (λx=>some (.inl (j.1,e.1,j.2.1,j.2.2.1,l,h,j.2.2.2.1,i,j.2.2.2.2.1,(some (x.1,x.2.1,x.2.2.1,x.2.2.2)))))else some (.inr (0,0,e.1.L,e.1.At,m,n,l,h,o,i)):Option ((tM×xT×zB×yB×zD×zE×zH×zG×Bool×(Option (zE×zG×zD×zH)))⊕(Int×Int×List Int×Int×zB×yB×zD×zE×zH×zG))) λQ=>xX Q λc=>bif(c.1 !=c.2.1)then some (g,(⟨c.2.2.1,c.2.2.2.1⟩:xT),c.2.2.2.2.1,c.2.2.2.2.2.1,c.2.2.2.2.2.2.1,c.2.2.2.2.2.2.2.1,c.2.2.2.2.2.2.2.2.1,c.2.2.2.2.2.2.2.2.2,false,none)else bif(c.1==10)then bnd (vG g c.2.2.2.2.1 c.2.2.2.2.2.1 c.2.2.2.2.2.2.1 c.2.2.2.2.2.2.2.1 c.2.2.2.2.2.2.2.2.1 c.2.2.2.2.2.2.2.2.2) λk=>eN k.2.2.2.2.2 (some (k.1,(⟨c.2.2.1,c.2.2.2.1⟩:xT),k.2.1,k.2.2.1,c.2.2.2.2.2.2.1,c.2.2.2.2.2.2.2.1,k.2.2.2.1,c.2.2.2.2.2.2.2.2.2,k.2.2.2.2.1,none)) (λy=>some (k.1,(⟨c.2.2.1,c.2.2.2.1⟩:xT),k.2.1,k.2.2.1,c.2.2.2.2.2.2.1,c.2.2.2.2.2.2.2.1,k.2.2.2.1,c.2.2.2.2.2.2.2.2.2,k.2.2.2.2.1,(some (y.1,y.2.1,y.2.2.1,y.2.2.2))))else bnd (wE g c.2.2.2.2.1 c.2.2.2.2.2.1 c.2.2.2.2.2.2.1 c.2.2.2.2.2.2.2.1 c.2.2.2.2.2.2.2.2.1 c.2.2.2.2.2.2.2.2.2) λH=>some (g,(⟨c.2.2.1,c.2.2.2.1⟩:xT),c.2.2.2.2.1,c.2.2.2.2.2.1,c.2.2.2.2.2.2.1,c.2.2.2.2.2.2.2.1,H.1,c.2.2.2.2.2.2.2.2.2,H.2,none)
section
def zDS{S:Option Addr}{a:Nat}{b:Nat}{c:Nat}{d:Nat}{l:Nat}{p:Nat}{z:Nat}[AX]{h0 f1 d3 d4 c2 d5 c3 d6 c4 Z a0 Y a1 d7 V}(W:oX h0 f1 d3 d4 c2 d5 c3 d6=some V):DI 8 [BX x,BX d7] [BH A a h0.needs,AB B b f1.L,BH H i c2.needs,BM I j c2.load.Have,AB J l c2.load.Data,BP K m c2.order,BH N p c3.needs,BM P q c3.AZ.Have,AB Q r c3.AZ.Data,BP R t c3.order,ED S w d6.Keys,.ro (WR 0 [(2,some 296),(3,some 297)]),FZ x h0 y z Z Y A a,.res (Box d7 69 [AV B f1.L b,AO f1.At]),BL y d3 C c D d,AL C c d3.bytes,AY D d d3.BO,BN z d4 E e F f,AL E e d4.Data,AY F f d4.EN,BI Z c2 a0 G h H i I j J l K m,AU G h c2.devices,CP a0 d5 y c4,.res (xF (yW .u8) (DN BQ) c4 d5.all),BJ Y c3 a1 M o N p P q Q r R t,AU M o c3.devices,BZ a1 d6 z S w] (yu V.2.2.2.2.2.2.2.2.2 (λv h1=>∃a7 a8 c5 c6 c7 c8 c9 d0 d1 d2 a9 b0 b1 b2 b3 b4 b5 b6 b7 b8 d8 d9 b9 e0 e1 e2 e3 e4 e5 e6 e7 c0 c1 a5 a6,v=.bool V.2.2.2.2.2.2.2.2.1/\h1=[BH a7 a8 V.1.needs,AB c5 c6 V.2.1.L,BH b3 b4 V.2.2.2.2.1.needs,BM b5 b6 V.2.2.2.2.1.load.Have,AB b7 b8 V.2.2.2.2.1.load.Data,BP d8 d9 V.2.2.2.2.1.order,BH e2 e3 V.2.2.2.2.2.2.1.needs,BM e4 e5 V.2.2.2.2.2.2.1.AZ.Have,AB e6 e7 V.2.2.2.2.2.2.1.AZ.Data,BP c0 c1 V.2.2.2.2.2.2.1.order,ED a5 a6 V.2.2.2.2.2.2.2.1.Keys,FZ x V.1 y z Z Y a7 a8,.res (Box d7 69 [AV c5 V.2.1.L c6,AO V.2.1.At]),BL y V.2.2.1 c7 c8 c9 d0,AL c7 c8 V.2.2.1.bytes,AY c9 d0 V.2.2.1.BO,BN z V.2.2.2.1 d1 d2 a9 b0,AL d1 d2 V.2.2.2.1.Data,AY a9 b0 V.2.2.2.1.EN,BI Z V.2.2.2.2.1 a0 b1 b2 b3 b4 b5 b6 b7 b8 d8 d9,AU b1 b2 V.2.2.2.2.1.devices,CP a0 V.2.2.2.2.2.1 y b9,.res (xF (yW .u8) (DN BQ) b9 V.2.2.2.2.2.1.all),BJ Y V.2.2.2.2.2.2.1 a1 e0 e1 e2 e3 e4 e5 e6 e7 c0 c1,AU e0 e1 V.2.2.2.2.2.2.1.devices,BZ a1 V.2.2.2.2.2.2.2.1 z a5 a6]) (λa2 v h1=>∃f2 f3 f4 f5 a7 a8 c5 c6 c7 c8 c9 d0 d1 d2 a9 b0 b1 b2 b3 b4 b5 b6 b7 b8 d8 d9 b9 e0 e1 e2 e3 e4 e5 e6 e7 c0 c1 a5 a6 f6 h2 h3 h4 h5 h6 h7 h8 h9 j0 j1 j2 j3 j4 j5 j6 j7 f7 f8 f9 g0 g1 g2,v=.bool V.2.2.2.2.2.2.2.2.1/\h1=[BH a7 a8 V.1.needs,AB c5 c6 V.2.1.L,BH b3 b4 V.2.2.2.2.1.needs,BM b5 b6 V.2.2.2.2.1.load.Have,AB b7 b8 V.2.2.2.2.1.load.Data,BP d8 d9 V.2.2.2.2.1.order,BH e2 e3 V.2.2.2.2.2.2.1.needs,BM e4 e5 V.2.2.2.2.2.2.1.AZ.Have,AB e6 e7 V.2.2.2.2.2.2.1.AZ.Data,BP c0 c1 V.2.2.2.2.2.2.1.order,ED a5 a6 V.2.2.2.2.2.2.2.1.Keys,ED h2 h3 a2.2.1.Keys,BH h6 h7 a2.2.2.1.needs,BM h8 h9 a2.2.2.1.load.Have,AB j0 j1 a2.2.2.1.load.Data,BP j2 j3 a2.2.2.1.order,BH j6 j7 a2.2.2.2.needs,BM f7 f8 a2.2.2.2.AZ.Have,AB f9 g0 a2.2.2.2.AZ.Data,BP g1 g2 a2.2.2.2.order,FZ x V.1 y z f4 f5 a7 a8,.res (Box d7 69 [AV c5 V.2.1.L c6,AO V.2.1.At]),BL y V.2.2.1 c7 c8 c9 d0,AL c7 c8 V.2.2.1.bytes,AY c9 d0 V.2.2.1.BO,BN z V.2.2.2.1 d1 d2 a9 b0,AL d1 d2 V.2.2.2.1.Data,AY a9 b0 V.2.2.2.1.EN,BI Z V.2.2.2.2.1 a0 b1 b2 b3 b4 b5 b6 b7 b8 d8 d9,AU b1 b2 V.2.2.2.2.1.devices,CP a0 V.2.2.2.2.2.1 y b9,.res (xF (yW .u8) (DN BQ) b9 V.2.2.2.2.2.1.all),BJ Y V.2.2.2.2.2.2.1 a1 e0 e1 e2 e3 e4 e5 e6 e7 c0 c1,AU e0 e1 V.2.2.2.2.2.2.1.devices,BZ a1 V.2.2.2.2.2.2.2.1 z a5 a6,CP f2 a2.1 y f6,.res (xF (yW .u8) (DN BQ) f6 a2.1.all),BZ f3 a2.2.1 z h2 h3,BI f4 a2.2.2.1 f2 h4 h5 h6 h7 h8 h9 j0 j1 j2 j3,AU h4 h5 a2.2.2.1.devices,BJ f5 a2.2.2.2 f3 j4 j5 j6 j7 f7 f8 f9 g0 g1 g2,AU j4 j5 a2.2.2.2.devices])):=CW.iz O λg3 b70=>.g 21111 O<|.bd W λn8 T W=>.cj 27 (λ(X:Int×Int×List Int×Int×zB×yB×zD×zE×zH×zG) (U:Option Addr×Nat×Option Addr×Nat×Option Addr×Nat×Option Addr×Nat×Option Addr×Nat×Option Addr×Nat×Option Addr×Nat×Option Addr×Nat×Option Addr×Nat×Option Addr×Nat×Option Nat×aCF)=>[0,.s 5 (AO X.1),.s 6 (AO X.2.1)]) (λX U=>[ED U.2.2.2.2.2.2.2.2.2.2.2.2.2.2.2.2.2.2.2.2.2.2.2.2.2.2.2.2.2.2.2.1 U.2.2.2.2.2.2.2.2.2.2.2.2.2.2.2.2.2.2.2.2.2.2.2.2.2.2.2.2.2.2.2.2 X.2.2.2.2.2.2.2.2.2.Keys,BP U.2.2.2.2.2.2.2.2.2.2.2.2.2.2.2.2.2.2.2.2.2.2.2.2.2.2.2.2.2.1 U.2.2.2.2.2.2.2.2.2.2.2.2.2.2.2.2.2.2.2.2.2.2.2.2.2.2.2.2.2.2.1 X.2.2.2.2.2.2.2.2.1.order,AB U.2.2.2.2.2.2.2.2.2.2.2.2.2.2.2.2.2.2.2.2.2.2.2.2.2.2.2.1 U.2.2.2.2.2.2.2.2.2.2.2.2.2.2.2.2.2.2.2.2.2.2.2.2.2.2.2.2.1 X.2.2.2.2.2.2.2.2.1.AZ.Data,BM U.2.2.2.2.2.2.2.2.2.2.2.2.2.2.2.2.2.2.2.2.2.2.2.2.2.1 U.2.2.2.2.2.2.2.2.2.2.2.2.2.2.2.2.2.2.2.2.2.2.2.2.2.2.1 X.2.2.2.2.2.2.2.2.1.AZ.Have,BH U.2.2.2.2.2.2.2.2.2.2.2.2.2.2.2.2.2.2.2.2.2.2.2.1 U.2.2.2.2.2.2.2.2.2.2.2.2.2.2.2.2.2.2.2.2.2.2.2.2.1 X.2.2.2.2.2.2.2.2.1.needs,AU U.2.2.2.2.2.2.2.2.2.2.2.2.2.2.2.2.2.2.2.2.2.1 U.2.2.2.2.2.2.2.2.2.2.2.2.2.2.2.2.2.2.2.2.2.2.1 X.2.2.2.2.2.2.2.2.1.devices,.res (xF (yW .u8) (DN BQ) U.2.2.2.2.2.2.2.2.2.2.2.2.2.2.2.2.2.2.2.2.1 X.2.2.2.2.2.2.2.1.all),BP U.2.2.2.2.2.2.2.2.2.2.2.2.2.2.2.2.2.2.1 U.2.2.2.2.2.2.2.2.2.2.2.2.2.2.2.2.2.2.2.1 X.2.2.2.2.2.2.1.order,AB U.2.2.2.2.2.2.2.2.2.2.2.2.2.2.2.2.1 U.2.2.2.2.2.2.2.2.2.2.2.2.2.2.2.2.2.1 X.2.2.2.2.2.2.1.load.Data,BM U.2.2.2.2.2.2.2.2.2.2.2.2.2.2.1 U.2.2.2.2.2.2.2.2.2.2.2.2.2.2.2.1 X.2.2.2.2.2.2.1.load.Have,BH U.2.2.2.2.2.2.2.2.2.2.2.2.1 U.2.2.2.2.2.2.2.2.2.2.2.2.2.1 X.2.2.2.2.2.2.1.needs,AU U.2.2.2.2.2.2.2.2.2.2.1 U.2.2.2.2.2.2.2.2.2.2.2.1 X.2.2.2.2.2.2.1.devices,AY U.2.2.2.2.2.2.2.2.1 U.2.2.2.2.2.2.2.2.2.1 X.2.2.2.2.2.1.EN,AL U.2.2.2.2.2.2.1 U.2.2.2.2.2.2.2.1 X.2.2.2.2.2.1.Data,AY U.2.2.2.2.1 U.2.2.2.2.2.1 X.2.2.2.2.1.BO,AL U.2.2.1 U.2.2.2.1 X.2.2.2.2.1.bytes,AB U.1 U.2.1 X.2.2.1,0,11,12,.res (Box d7 69 [AV U.1 X.2.2.1 U.2.1,AO X.2.2.2.1]),BL y X.2.2.2.2.1 U.2.2.1 U.2.2.2.1 U.2.2.2.2.1 U.2.2.2.2.2.1,BN z X.2.2.2.2.2.1 U.2.2.2.2.2.2.1 U.2.2.2.2.2.2.2.1 U.2.2.2.2.2.2.2.2.1 U.2.2.2.2.2.2.2.2.2.1,BI Z X.2.2.2.2.2.2.1 a0 U.2.2.2.2.2.2.2.2.2.2.1 U.2.2.2.2.2.2.2.2.2.2.2.1 U.2.2.2.2.2.2.2.2.2.2.2.2.1 U.2.2.2.2.2.2.2.2.2.2.2.2.2.1 U.2.2.2.2.2.2.2.2.2.2.2.2.2.2.1 U.2.2.2.2.2.2.2.2.2.2.2.2.2.2.2.1 U.2.2.2.2.2.2.2.2.2.2.2.2.2.2.2.2.1 U.2.2.2.2.2.2.2.2.2.2.2.2.2.2.2.2.2.1 U.2.2.2.2.2.2.2.2.2.2.2.2.2.2.2.2.2.2.1 U.2.2.2.2.2.2.2.2.2.2.2.2.2.2.2.2.2.2.2.1,CP a0 X.2.2.2.2.2.2.2.1 y U.2.2.2.2.2.2.2.2.2.2.2.2.2.2.2.2.2.2.2.2.1,BJ Y X.2.2.2.2.2.2.2.2.1 a1 U.2.2.2.2.2.2.2.2.2.2.2.2.2.2.2.2.2.2.2.2.2.1 U.2.2.2.2.2.2.2.2.2.2.2.2.2.2.2.2.2.2.2.2.2.2.1 U.2.2.2.2.2.2.2.2.2.2.2.2.2.2.2.2.2.2.2.2.2.2.2.1 U.2.2.2.2.2.2.2.2.2.2.2.2.2.2.2.2.2.2.2.2.2.2.2.2.1 U.2.2.2.2.2.2.2.2.2.2.2.2.2.2.2.2.2.2.2.2.2.2.2.2.2.1 U.2.2.2.2.2.2.2.2.2.2.2.2.2.2.2.2.2.2.2.2.2.2.2.2.2.2.1 U.2.2.2.2.2.2.2.2.2.2.2.2.2.2.2.2.2.2.2.2.2.2.2.2.2.2.2.1 U.2.2.2.2.2.2.2.2.2.2.2.2.2.2.2.2.2.2.2.2.2.2.2.2.2.2.2.2.1 U.2.2.2.2.2.2.2.2.2.2.2.2.2.2.2.2.2.2.2.2.2.2.2.2.2.2.2.2.2.1 U.2.2.2.2.2.2.2.2.2.2.2.2.2.2.2.2.2.2.2.2.2.2.2.2.2.2.2.2.2.2.1,BZ a1 X.2.2.2.2.2.2.2.2.2 z U.2.2.2.2.2.2.2.2.2.2.2.2.2.2.2.2.2.2.2.2.2.2.2.2.2.2.2.2.2.2.2.1 U.2.2.2.2.2.2.2.2.2.2.2.2.2.2.2.2.2.2.2.2.2.2.2.2.2.2.2.2.2.2.2.2]) O O (λX=>n8=.inr X) (.k 21 O<|.bd T λe8 n9 T=>.cr 28 [2] [13] 0 (yR n9) O λa5 a6=>.u 1 O<|.kl 3 1 O<|.bk<|.g 2 O<|.bd T λo0 e9 T=>.co 0 [0,1,5,6,17,.s 18 (.bool o0)] [] O O (.g 11 O<|.cb e9 O (λe9=>ij e9▸(.sk<|.hU O zw)) λe9=>.k 1 O<|ij e9▸.bu O O zw)<|.cb T O (λT=>.g 2 O<|.BU (iN [0,4,8,12,16,20,25,32,36,40,44,31,51,55,56] .nil) _ mixed (by kernel_rfl) (zl [0,1,1,1,1,1,1,1,1,1,1,1,1,1,1,1,1,1,1,3,3] 5 O)<|.yn 6 O<|.yx 3 13 O<|.yn 3 O<|.yl 4 12 O<|.CU<|.bd T λb71 o1 T=>by exact .ss 27 (xY o1)<|.bd T λb72 o2 T=>.call (kK (f:=Y) o2) O O O O (zd [9,10,11,12] [24,24] 0 O)<|by rintro _ _ ⟨h2,h3,h4,h5,h6,h7,h8,h9,j0,j1,j2,j3,rfl,rfl⟩;exact .nm 32 O<|.xk (zl [7,8,8,8,8,8,8,8,8,8,8,8,8,8,8,8,8,8,8] 10 O)<|.CU<|.BF (λ_ g3=>(g3.sl [6] 0 O).JW)<|.bd T λb73 o3 T=>.ct 34 [8,1,9] [8] 0 (zMn o3) O λj4 j5 j6 j7=>.xk (zl [10,10,10,10,10,10,10,10,10,10,10,10,10,10,10,10,10,10,10] 12 O)<|.CU<|.BF (λ_ g3=>(g3.sl [2] 0 O).CZ)<|.bd T λb74 o4 T=>.call (zEu (x:=x) (b1:=d7) (y:=y) (z:=z) (a3:=Z) (a9:=a0) (a4:=Y) (b0:=a1) o4) O O O O (zd [23,16,15,24,25,26,27,18,19,20,21,32,33] [22,2,21,21,21,21,21,21,21,21,21,21,7,7,19] 0 O)<|by rintro _ _ ⟨f7,f8,f9,g0,g1,g2,o5,o6,o7,o8,o9,p0,p1,p2,p3,p4,p5,p6,p7,p8,p9,q0,rfl,rfl⟩;exact .nm 43 O<|.xk (zl [31,31,31,31,31,31,31,31,31,31,31,31,9,10,10,10,10,10,10,12,12,14] 21 O)<|.yn 1 O<|.DF<|.tn<|.pg [0,0,0,0,0,0,0,0,0,0,0,0,0,0,0,0,0,0,0,0,0,0,0,0,8] 16 O<|by cases T;have W:some _=some _:=W;exact ij W▸.rv O O (wA ⟨A,a,f7,f8,C,c,D,d,E,e,F,f,f9,g0,g1,g2,o5,o6,o7,o8,o9,p0,c4,p1,p2,p3,p4,p5,p6,p7,p8,p9,q0,S,w,O,O⟩) (zk 26 12 [24,15,16,17,18,19,20,21,22,23,25] [9,9,9,9,9,9,9,9,9,9,9,9,9,9,9] 0 O)) λT=>.g 2 O<|.bd T λq1 f0 T=>.co 0 [0,1,5,6,17,.s 35 (.bool q1)] [] O O (.g 11 O<|.cb f0 O (λf0=>ij f0▸(.sk<|.hU O zw)) λf0=>.k 1 O<|ij f0▸.bu O O zw)<|.cb T O (λT=>.BU (iN [0,4,8,13,20,24,28,32,19,39,40,44] .nil) _ mixed (by kernel_rfl) (zl [0,0,0,0,0,0,0,0,0,0,0,0,0,0] 13 O)<|.yn 3 O<|.yx 2 13 O<|.yn 3 O<|.yl 3 13 O<|.CU<|.bd T λb75 q2 T=>by exact .ss 41 (xY q2)<|.bd T λg4 q3 T=>.call (cG (j:=Z) (k:=a0) (l:=y) q3) O O O O (zd [10,11,12,13] [20,20,20,20,14,14,14] 0 O)<|by rintro _ _ ⟨q4,q5,q6,q7,q8,q9,r0,r1,r2,r3,f6,r4,r5,r6,r7,rfl,rfl⟩;exact .nm 31 O<|.xk (zl [11,11,11,11,11,11,11,11,11,11,11,11,11,11] 17 O)<|.CU<|.bd T λb76 r8 T=>by exact .ss 46 (xY r8)<|.bd T λg5 r9 T=>.call (zEK (j:=Y) (l:=a1) (m:=z) r9) O O O O (zd [24,25,26,27,28] [28,28,28,25,25,25] 0 O)<|by rintro _ _ ⟨s0,s1,s2,s3,s4,s5,s6,s7,s8,s9,t0,t1,t2,t3,t4,t5,rfl,rfl⟩;exact .nm 36 O<|.xk (zl [] 22 O)<|.yn 2 O<|.DF<|.KW<|ij T▸(.th<|.EK (g4.2.2.2,g5.2.2.2,e8.1.L,e8.1.At,g4.2.2.1,g5.2.2.1,g4.1,g4.2.1,g5.1,g5.2.1) (a5,a6,r4,r5,r6,r7,t2,t3,t4,t5,q4,q5,q6,q7,q8,q9,r0,r1,r2,r3,f6,s0,s1,s2,s3,s4,s5,s6,s7,s8,s9,t0,t1) O (zb O) (zl [4,3,2,1,0,1,12,8,7,6,5,6,4,3,7,6,6,7,16,16,6,5,2,2,2,0,0] 9 O))) λT=>.g 2 O<|.bd T λt6 a3 T=>.co 0 [0,1,5,6,17,.s 48 (.bool t6)] [] O O (.g 11 O<|.cb a3 O (λa3=>ij a3▸(.sk<|.hU O zw)) λa3=>.g 11 O<|.cb a3 O (λa3=>ij a3▸(.sk<|.hU O zw)) λa3=>.g 11 O<|.cb a3 O (λa3=>ij a3▸(.sk<|.hU O zw)) λa3=>.k 1 O<|ij a3▸.bu O O zw)<|.cb T O (λT=>.k 21 O<|.bd T λj8 t7 T=>.cr 28 [1] [1] 0 (yR t7) O λj9 k0=>.u 1 O<|.kl 2 1 O<|.k 41 O<|.lb 2 13 O<|.n 1 O<|.bd T λb77 t8 T=>by exact .ss 60 (xY t8)<|.bd T λg6 t9 T=>.call (iX (i:=Z) (j:=a0) (l:=y) t9) O O O O (zd [10,11,12,13,19] [20,20,20,20,14,14,14] 0 O)<|by rintro _ _ ⟨k1,k2,k3,k4,k5,k6,k7,k8,k9,l0,l1,l2,l3,l4,l5,rfl,rfl⟩;exact .nm 31 O<|.u 1 O<|.kl 14 4 O<|.k 41 O<|.lb 3 20 O<|.n 1 O<|.bd T λb78 v0 T=>by exact .ss 69 (xY v0)<|.bd T λg7 v1 T=>.call (zGE (j:=Y) (l:=a1) (m:=z) v1) O O O O (zd [20,21,22,23,24] [24,24,24,21,21,21] 0 O)<|by rintro _ _ ⟨l6,l7,l8,l9,m0,m1,m2,m3,m4,m5,m6,m7,m8,m9,n0,n1,rfl,rfl⟩;exact .nm 32 O<|.u 1 O<|.kl 25 5 O<|.g 1111 O<|.cb T O (λT=>.g 11 O<|by cases T;have W:some _=some _:=W;exact ij W▸.rv O O (wA ⟨A,a,j9,k0,l2,l3,l4,l5,m8,m9,n0,n1,k1,k2,k3,k4,k5,k6,k7,k8,k9,l0,l1,l6,l7,l8,l9,m0,m1,m2,m3,m4,m5,m6,m7,O,O⟩) (zk 26 12 [25,24,20,21,22,23,15,16,17,18,19] [26,23,19,19,19,8,8,8,12,12,12,12,5,5,5] 0 O)) λT=>.skip<|.KW<|ij T▸(.th<|.EK (g6.2.2.2.2,g7.2.2.2.2,j8.1.L,j8.1.At,g6.2.2.1,g7.2.2.1,g6.1,g6.2.1,g7.1,g7.2.1) (j9,k0,l2,l3,l4,l5,m8,m9,n0,n1,k1,k2,k3,k4,k5,k6,k7,k8,k9,l0,l1,l6,l7,l8,l9,m0,m1,m2,m3,m4,m5,m6,m7) O (zb O) (zl [4,3,2,1,0,1,12,8,7,6,5,6,4,3,7,6,6,7,7,7,6,5,2,2,2] 0 O))) λT=>.g 11 O<|.cb T O (λT=>.BU (iN [0,4,8,13,20,24,28,32,19,39,40,44] .nil) _ mixed (by kernel_rfl) (zl [0,0,0,0,0,0,0,0,0,0,0,0,0,0,0,0,0,0,0,0,2,2] 4 O)<|.yn 3 O<|.yx 2 13 O<|.yn 3 O<|.yl 3 13 O<|.CU<|.bd T λb79 v2 T=>by exact .ss 84 (xY v2)<|.bd T λn2 v3 T=>.call (zEw (f:=Z) v3) O O O O (zd [5,6,7,8] [20,20] 0 O)<|by rintro _ _ ⟨v4,v5,v6,v7,v8,v9,w0,w1,w2,w3,rfl,rfl⟩;exact .nm 31 O<|.xk (zl [6,6,6,6,6,6,6,6,6,6,6,6,6,6,6,6,6,6,6,6,6,6] 8 O)<|.CU<|.bd T λb80 w4 T=>by exact .ss 89 (xY w4)<|.bd T λn3 w5 T=>.call (aS (f:=Y) w5) O O O O (zd [15,16,17,18] [28,28] 0 O)<|by rintro _ _ ⟨w6,w7,w8,w9,x0,x1,x2,x3,x4,x5,rfl,rfl⟩;exact .nm 35 O<|.xk (zl [] 12 O)<|.yn 2 O<|.DF<|.KW<|ij T▸(.th<|.EK (n2.2,n3.2,e8.1.L,e8.1.At,d3,d4,n2.1,d5,n3.1,d6) (a5,a6,C,c,D,d,E,e,F,f,v4,v5,v6,v7,v8,v9,w0,w1,w2,w3,c4,w6,w7,w8,w9,x0,x1,x2,x3,x4,x5,S,w) O (zb O) (zl [23,3,2,1,0,1,27,4,3,2,1,2,20,19,17,16,2,3,11,11,2,10,10,1,9,0] 8 O))) λT=>.g 11 O<|.cb T O (λT=>.k 21 O<|.bd T λb81 x6 T=>.cr 28 [1] [1] 0 (yR x6) O λb82 b83=>.n 2 O<|.bd T λn4 x7 T=>.cr 29 [1] [1] 0 (yR x7) O λx8 x9=>.u 1 O<|.kl 2 2 O<|.k 41 O<|.lb 0 13 O<|.n 2 O<|.bd T λb84 y0 T=>by exact .ss 102 (xY y0)<|.bd T λy1 y2 T=>.ct 27 [] [14,14,14] 0 (zGl y2) O λy3 y4 y5 y6=>.v 411 O<|.lb 1 16 O<|.n 2 O<|.bd T λb85 y7 T=>by exact .ss 109 (xY y7)<|.bd T λy8 y9 T=>.ct 27 [] [17,17,17] 0 (zHv y9) O λz0 z1 z2 z3=>.done<|.KW<|ij T▸(.th<|.EK (0,0,n4.1.L,n4.1.At,y1,y8,c2,d5,c3,d6) (x8,x9,y3,y4,y5,y6,z0,z1,z2,z3,G,h,H,i,I,j,J,l,K,m,c4,M,o,N,p,P,q,Q,r,R,t,S,w) O (zb O) (zl [17,16,15,14,13,20,18,12,11,10,9,12,2,1,3,2,2,3,3,3,2,1] 0 O))) λT=>.g 11 O<|.cb T O (λT=>.k 21 O<|.bd T λb86 z4 T=>.cr 28 [1] [1] 0 (yR z4) O λb87 b88=>.n 2 O<|.bd T λn5 z5 T=>.cr 29 [1] [1] 0 (yR z5) O λz6 z7=>.u 1 O<|.kl 2 2 O<|.BU (iN [0,4,8,13,16,20,28,32,36,40,44,48,27,55,56,60] .nil) _ mixed (by kernel_rfl) (zl [0,0,0,0,0,0,0,0,0,0,0,0,0,0,0,0,0,0,0,0,2,2] 4 O)<|.yn 3 O<|.yx 2 13 O<|.yn 5 O<|.yl 3 13 O<|.yn 2 O<|.CU<|.bd T λb89 z8 T=>by exact .ss 123 (xY z8)<|.bd T λn6 z9 T=>.call (jN (f:=Z) z9) O O O O (zd [5,6,7,8,14] [20,20] 0 O)<|by rintro _ _ ⟨a00,a01,a02,a03,a04,a05,a06,a07,a08,a09,rfl,rfl⟩;exact .nm 31 O<|.xk (zl [6,6,6,6,6,6,6,6,6,6,6,6,6,6,6,6,6,6,6,6,6,6] 8 O)<|.CU<|.bd T λb90 a10 T=>by exact .ss 130 (xY a10)<|.bd T λn7 a11 T=>.call (aN (f:=Y) a11) O O O O (zd [15,16,17,18] [28,28] 0 O)<|by rintro _ _ ⟨a12,a13,a14,a15,a16,a17,a18,a19,a20,a21,rfl,rfl⟩;exact .nm 35 O<|.xk (zl [] 12 O)<|.yn 2 O<|.DF<|.KW<|ij T▸(.th<|.EK (n6.2,n7.2,n5.1.L,n5.1.At,d3,d4,n6.1,d5,n7.1,d6) (z6,z7,C,c,D,d,E,e,F,f,a00,a01,a02,a03,a04,a05,a06,a07,a08,a09,c4,a12,a13,a14,a15,a16,a17,a18,a19,a20,a21,S,w) O (zb O) (zl [23,3,2,1,0,1,27,4,3,2,1,2,20,19,17,16,2,3,11,11,2,10,10,1,9,0] 8 O))) λT=>.g 11 O<|.cb T O (λT=>.k 21 O<|.bd T λa22 a23 T=>.call (cC (w:=x) (x:=y) (y:=z) (z:=Z) (a2:=a0) (T:=Y) (U:=a1) a23) O O O O (zd [16,17,18,19,20,21,22,23,24,25,26] [13,13,13,13,13,13,13,13,13,13,13,13,13,13] 0 O)<|λa24 a25 a4=>by rcases g8:a22.2.2.2.2.2 with _|b91;(replace a4:=iY g8 a4;replace T:=oJ g8 T;obtain⟨a26,a27,a28,a29,a30,a31,a32,a33,a34,a35,a36,a37,a38,a39,a40,a41,a42,a43,a44,a45,rfl,rfl⟩:=a4;exact .nm 32 O<|.u 1 O<|.pg [0,0,0,0,0,0,0,0,0,0,0,0,0,0,0,0,0,0,0,0,0,1,1,1,1] 5 O<|by cases T;have W:some _=some _:=W;exact ij W▸.rv O O (wA ⟨a26,a27,a5,a6,a28,a29,a30,a31,a32,a33,a34,a35,G,h,H,i,I,j,J,l,K,m,c4,a36,a37,a38,a39,a40,a41,a42,a43,a44,a45,S,w,O,O⟩) (zk 26 12 [15,20,21,22,23,24,16,17,18,19,25] [5,19,5,5,5,5,5,5,5,5,5,5,5,5,5] 0 O));(replace a4:=pJ g8 a4;replace T:=oB g8 T;obtain⟨f2,f3,f4,f5,a46,a47,a48,a49,a50,a51,a52,a53,a54,a55,a56,a57,a58,a59,a60,a61,a62,a63,a64,a65,a66,a67,a68,a69,a70,a71,a72,a73,a74,a75,a76,a77,a78,a79,a80,a81,a82,a83,a84,a85,a86,a87,a88,rfl,rfl⟩:=a4;exact .nm 48 O<|.u 1 O<|.pg [0,0,0,0,0,0,0,0,0,0,0,0,0,0,0,0,0,0,0,0,0,0,0,0,0,0,0,0,0,0,0,0,0,0,0,0,0,1,1,1,1] 5 O<|by cases T;have W:some _=some _:=W;exact ij W▸.rv O O (qD ⟨f2,f3,f4,f5,a46,a47,a5,a6,a48,a49,a50,a51,a52,a53,a54,a55,G,h,H,i,I,j,J,l,K,m,c4,a56,a57,a58,a59,a60,a61,a62,a63,a64,a65,S,w,a66,a67,a68,a69,a70,a71,a72,a73,a74,a75,a76,a77,a78,a79,a80,a81,a82,a83,a84,a85,a86,a87,a88,O,O⟩) (zk 42 21 [22,36,37,38,39,40,23,24,25,26,41,27,28,29,30,31,32,33,34,35] [14,35,14,14,14,14,14,14,14,14,14,14,14,14,14,14,14,14,14,14,14,14] 0 O))) λT=>.skip<|.KW<|ij T▸(.th<|.EK (0,0,e8.1.L,e8.1.At,d3,d4,c2,d5,c3,d6) (a5,a6,C,c,D,d,E,e,F,f,G,h,H,i,I,j,J,l,K,m,c4,M,o,N,p,P,q,Q,r,R,t,S,w) O (zb O) (zl [11,10,9,8,7,20,18,6,5,4,3,12,10,9,7,6,0,1,1,1] 0 O)))<|λX ⟨a7,a8,c5,c6,c7,c8,c9,d0,d1,d2,a9,b0,b1,b2,b3,b4,b5,b6,b7,b8,b9,d8,d9,e0,e1,e2,e3,e4,e5,e6,e7,c0,c1⟩ a89=>by subst a89;have W:=KF W;exact .g 112 O<|.cb W O (λW=>.g 11 O<|ij W▸.rv O O (wA ⟨A,a,a7,a8,c5,c6,c7,c8,c9,d0,d1,d2,a9,b0,b1,b2,b3,b4,b5,b6,b7,b8,b9,d8,d9,e0,e1,e2,e3,e4,e5,e6,e7,c0,c1,O,O⟩) (zk 26 12 [25,24,23,22,21,20,19,18,17,16,15] [19,19,19,15,14,17,13,12,15,11,14,6,13,5,12] 0 O)) λW=>.g 1121 O<|.cb W O (λW=>.k 21 O<|.bd W λa90 a91 W=>.call (cC (w:=x) (x:=y) (y:=z) (z:=Z) (a2:=a0) (T:=Y) (U:=a1) a91) O O O O (zd [24,22,21,20,19,18,17,16,15,14,25] [19,20,15,14,18,13,12,16,11,15,6,14,5,13] 0 O)<|λa24 a25 a4=>by rcases g9:a90.2.2.2.2.2 with _|b92;(replace a4:=iY g9 a4;replace W:=oJ g9 W;obtain⟨a92,a93,a94,a95,a96,a97,a98,a99,b00,b01,b02,b03,b04,b05,b06,b07,b08,b09,b10,b11,rfl,rfl⟩:=a4;exact .nm 32 O<|.u 1 O<|.pg [0,0,0,0,0,0,0,0,0,0,0,0,0,0,0,0,0,0,0,0,4,4,4,4,4] 5 O<|ij W▸.rv O O (wA ⟨a92,a93,a7,a8,a94,a95,a96,a97,a98,a99,b00,b01,a9,b0,b1,b2,b3,b4,b5,b6,b7,b8,b9,b02,b03,b04,b05,b06,b07,b08,b09,b10,b11,c0,c1,O,O⟩) (zk 26 12 [15,25,24,23,22,21,16,17,18,19,20] [5,25,5,5,5,5,5,5,5,5,5,5,5,5,5] 0 O));(replace a4:=pJ g9 a4;replace W:=oB g9 W;obtain⟨b12,b13,b14,b15,b16,b17,b18,b19,b20,b21,b22,b23,b24,b25,b26,b27,b28,b29,b30,b31,b32,b33,b34,b35,b36,b37,b38,b39,b40,b41,b42,b43,b44,b45,b46,b47,b48,b49,b50,b51,b52,b53,b54,b55,b56,b57,b58,rfl,rfl⟩:=a4;exact .nm 48 O<|.u 1 O<|.pg [0,0,0,0,0,0,0,0,0,0,0,0,0,0,0,0,0,0,0,0,0,0,0,0,0,0,0,0,0,0,0,0,0,0,0,0,4,4,4,4,4] 5 O<|ij W▸.rv O O (qD ⟨b12,b13,b14,b15,b16,b17,a7,a8,b18,b19,b20,b21,b22,b23,b24,b25,a9,b0,b1,b2,b3,b4,b5,b6,b7,b8,b9,b26,b27,b28,b29,b30,b31,b32,b33,b34,b35,c0,c1,b36,b37,b38,b39,b40,b41,b42,b43,b44,b45,b46,b47,b48,b49,b50,b51,b52,b53,b54,b55,b56,b57,b58,O,O⟩) (zk 42 21 [22,41,40,39,38,37,23,24,25,26,36,27,28,29,30,31,32,33,34,35] [14,41,14,14,14,14,14,14,14,14,14,14,14,14,14,14,14,14,14,14,14,14] 0 O))) λW=>.k 211 O<|.bd W λb93 b59 W=>.call (uG (u:=x) (w:=y) (x:=z) (y:=Z) (z:=a0) (W:=Y) (b0:=a1) b59) O O O O (zd [24,22,21,20,19,18,17,16,15,14] [19,20,15,14,18,13,12,16,11,15,6,14,5,13] 0 O)<|by rintro _ _ ⟨b60,b61,b62,b63,b64,b65,b66,b67,b68,b69,rfl,rfl⟩;exact .nm 31 O<|.u 1 O<|.kl 19 4 O<|ij W▸.rv O O (wA ⟨A,a,a7,a8,c5,c6,c7,c8,c9,d0,d1,d2,a9,b0,b1,b2,b3,b4,b5,b6,b7,b8,b9,b60,b61,b62,b63,b64,b65,b66,b67,b68,b69,c0,c1,O,O⟩) (zk 26 12 [25,24,23,22,21,20,15,16,17,18,19] [4,25,4,4,4,4,4,4,4,4,4,4,4,4,4] 0 O)
end
def CW.weak{P:Program}{f:FuncId}{args:List Value}{F e G:List As}{Post c:Value->List As->Prop}(h:CW P f args F Post)(g:∀R w,Sat (e++R) w->Sat (F++(G++R)) w)(hp:∀v H,Post v H->∃d,c v d/\∀R w,Sat (H++(G++R)) w->Sat (d++R) w):CW P f args e c:=
 λw R i=>(h w (G++R) (g R w i)).mono λ_ _ ⟨v,H,j,k,l,m⟩=>let⟨d,a,b⟩:=hp v H k;⟨v,d,j,a,b R _ l,m⟩
abbrev Ep:=tM×xT×zB×yB×zD×zE×zH×zG
structure Xd where
 d:Nat
 f:Nat
 a:Nat
 s:Nat
 b:Nat
 t:Nat
 M:Option Nat
 A:Nat->Option Addr
 c:Nat->Nat
def PF(g h:Nat)(x:Ep)(e:Xd):List As:=
  .ro (WR 0 [(2,some 296),(3,some 297)])::
 [.ro (FB zP (e.A 0) (e.c 0) x.1.needs),.ro (FB BQ (e.A 1) (e.c 1) x.2.1.L),.ro (FB zP (e.A 7) (e.c 7) x.2.2.2.2.1.needs),.ro (FB yC (e.A 8) (e.c 8) x.2.2.2.2.1.load.Have),.ro (FB BQ (e.A 9) (e.c 9) x.2.2.2.2.1.load.Data),.ro (FB zU (e.A 10) (e.c 10) x.2.2.2.2.1.order),
  .ro (FB zP (e.A 12) (e.c 12) x.2.2.2.2.2.2.1.needs),.ro (FB yC (e.A 13) (e.c 13) x.2.2.2.2.2.2.1.AZ.Have),.ro (FB BQ (e.A 14) (e.c 14) x.2.2.2.2.2.2.1.AZ.Data),.ro (FB zU (e.A 15) (e.c 15) x.2.2.2.2.2.2.1.order),.ro (Sl (zW zQ) (e.A 16) (e.c 16) x.2.2.2.2.2.2.2.Keys),
  .res (Box g 75 (sS x.1 e.d e.f e.a e.b (e.A 0) (e.c 0))),.res (Box h 69 [.slice (e.A 1) x.2.1.L.length (e.c 1),.int .i64 x.2.1.At]),.res (Box e.d 88 (zI x.2.2.1 (e.A 2) (e.c 2) (e.A 3) (e.c 3))),.res (zJ BQ 5 (e.A 2) (e.c 2) x.2.2.1.bytes),.res (zJ zU 3 (e.A 3) (e.c 3) x.2.2.1.BO),
  .res (Box e.f 142 (yE x.2.2.2.1 (e.A 4) (e.c 4) (e.A 5) (e.c 5))),.res (zJ BQ 5 (e.A 4) (e.c 4) x.2.2.2.1.Data),.res (zJ zU 3 (e.A 5) (e.c 5) x.2.2.2.1.EN),.res (Box e.a 108 (zM x.2.2.2.2.1 e.s (e.A 6) (e.c 6) (e.A 7) (e.c 7) (e.A 8) (e.c 8) (e.A 9) (e.c 9) (e.A 10) (e.c 10))),.res (yQ (zW zC) 47 (e.A 6) (e.c 6) x.2.2.2.2.1.devices),
  .res (Box e.s 92 (zT x.2.2.2.2.2.1 e.d e.M)),.res (xF (yW .u8) (DN BQ) e.M x.2.2.2.2.2.1.all),.res (Box e.b 151 (zN x.2.2.2.2.2.2.1 e.t (e.A 11) (e.c 11) (e.A 12) (e.c 12) (e.A 13) (e.c 13) (e.A 14) (e.c 14) (e.A 15) (e.c 15))),.res (yQ (zW zC) 47 (e.A 11) (e.c 11) x.2.2.2.2.2.2.1.devices),.res (Box e.t 207 (zX x.2.2.2.2.2.2.2 e.f (e.A 16) (e.c 16)))]
def Hu(r:tM×xT×zB×yB×zD×zE×zH×zG×Bool×Option (zE×zG×zD×zH)):Ep:=
 match r.2.2.2.2.2.2.2.2.2 with
 |none=>(r.1,r.2.1,r.2.2.1,r.2.2.2.1,r.2.2.2.2.1,r.2.2.2.2.2.1,r.2.2.2.2.2.2.1,r.2.2.2.2.2.2.2.1)|some q=>(r.1,r.2.1,r.2.2.1,r.2.2.2.1,q.2.2.1,q.1,q.2.2.2,q.2.1)
def Xe(a:Ep):Option (Bool×Ep):=
 bnd (oX a.1 a.2.1 a.2.2.1 a.2.2.2.1 a.2.2.2.2.1 a.2.2.2.2.2.1 a.2.2.2.2.2.2.1 a.2.2.2.2.2.2.2) λb=>some (b.2.2.2.2.2.2.2.2.1,Hu b)
def yAf{x:Ep}{g gc:Nat}{e:Xd}{q:Bool×Ep}(h:Xe x=some q):CW Tryz.prog 8 [.pointer (some ⟨g,0,none⟩),.pointer (some ⟨gc,0,none⟩)] (PF g gc x e) (λv F=>∃e',v=.bool q.1/\F=PF g gc q.2 e'):=by
 unfold Xe at h;obtain⟨r,hr,h⟩:=jk h;cases h;refine CW.weak (G:=[.ro (WR 0 [(2,some 296),(3,some 297)])]) (zDS (x:=g) (d7:=gc) (y:=e.d) (z:=e.f) (Z:=e.a) (a0:=e.s) (Y:=e.b) (a1:=e.t) (c4:=e.M) (A:=e.A 0) (a:=e.c 0) (B:=e.A 1) (b:=e.c 1) (C:=e.A 2) (c:=e.c 2) (D:=e.A 3) (d:=e.c 3) (E:=e.A 4) (e:=e.c 4) (F:=e.A 5) (f:=e.c 5) (G:=e.A 6) (h:=e.c 6) (H:=e.A 7) (i:=e.c 7) (I:=e.A 8) (j:=e.c 8) (J:=e.A 9) (l:=e.c 9) (K:=e.A 10) (m:=e.c 10) (M:=e.A 11) (o:=e.c 11) (N:=e.A 12) (p:=e.c 12) (P:=e.A 13) (q:=e.c 13) (Q:=e.A 14) (r:=e.c 14) (R:=e.A 15) (t:=e.c 15) (S:=e.A 16) (w:=e.c 16) hr) (λR w k=>zl [2,2,2,2,2,2,2,2,2,2,2,0,1,1,1,1,1,1,1,1,1,1,1,1,1,1,1] 0 O w (zd [0] [] 0 O w k)) λv H hp=>?_
 rcases hq:r.2.2.2.2.2.2.2.2.2 with _|q
 ·replace hp:=iY hq hp
  obtain⟨n,u,L,T,U,V,W,X,A22,c22,A23,c23,A24,c24,A25,c25,A26,c26,A27,c27,A28,c28,M,A29,c29,A30,c30,A31,c31,A32,c32,A33,c33,A34,c34,rfl,rfl⟩:=hp;have e1:Hu r=(r.1,r.2.1,r.2.2.1,r.2.2.2.1,r.2.2.2.2.1,r.2.2.2.2.2.1,r.2.2.2.2.2.2.1,r.2.2.2.2.2.2.2.1):=by unfold Hu;rw[hq]
  exact⟨_,⟨⟨e.d,e.f,e.a,e.s,e.b,e.t,M,λi=>[n,L,U,W,A22,A23,A24,A25,A26,A27,A28,A29,A30,A31,A32,A33,A34].getD i none,λi=>[u,T,V,X,c22,c23,c24,c25,c26,c27,c28,c29,c30,c31,c32,c33,c34].getD i 0⟩,O,O⟩,λR w k=>e1▸zl [26,0,0,0,0,0,0,0,0,0,0,0,0,0,0,0,0,0,0,0,0,0,0,0,0,0,0] 0 O w k⟩
 ·replace hp:=pJ hq hp
  obtain⟨gs,gt,ga,gb,A71,c71,A72,c72,A73,c73,A74,c74,A75,c75,A76,c76,A77,c77,A78,c78,A79,c79,A80,c80,A81,c81,M5,A82,c82,A83,c83,A84,c84,A85,c85,A86,c86,A87,c87,M6,A88,c88,A89,c89,A90,c90,A91,c91,A92,c92,A93,c93,A94,c94,A95,c95,A96,c96,A97,c97,A98,c98,rfl,rfl⟩:=hp;have e1:Hu r=(r.1,r.2.1,r.2.2.1,r.2.2.2.1,q.2.2.1,q.1,q.2.2.2,q.2.1):=by unfold Hu;rw[hq]
  exact⟨_,⟨⟨e.d,e.f,ga,gs,gb,gt,M6,λi=>[A71,A72,A73,A74,A75,A76,A89,A90,A91,A92,A93,A94,A95,A96,A97,A98,A88].getD i none,λi=>[c71,c72,c73,c74,c75,c76,c89,c90,c91,c92,c93,c94,c95,c96,c97,c98,c88].getD i 0⟩,O,O⟩,λR w k=>e1▸zl [42,0,0,10,10,10,10,10,10,10,10,9,9,9,9,9,9,9,9,9,19,19,16,16,17,17,16] 16 O w k⟩
def oO(d:List Int):Option Bool:=
 bnd zAA λe=>bif !e then some false else bnd (P9 d 300) λc=>bnd (gX c 4) λa=>bif !a.2.2.1 then some false else
  bnd (zZ (τ:=Bool⊕Unit) (λ(b:Int×Ep)=>bnd (bif decide (b.1<24)then bnd (uH b.2.2.1) λf=>some f else some false) λg=>bif g then bnd (Xe b.2) λq=>bif !q.1 then some (.done (.inl false))else some (.next (wrap .i64 (b.1+1),q.2))else some (.done (.inr ())))
   (0,(a.2.1,a.1,a.2.2.2.2.2.1,a.2.2.2.2.2.2.1,a.2.2.2.2.2.2.2.1,a.2.2.2.1,a.2.2.2.2.2.2.2.2,a.2.2.2.2.1))) λo=>xX o λ_=>some true
def zDQ{n:(List Int)}{x:Bool}(a:oO n=some x):DI 3 [AV A n f] [AB A f n,.ro (WR 0 [(2,some 296),(3,some 297)])] (Val (.bool x)):=by
 unfold oO at a;refine CW.intro Tryz.func3 O O O λc9 m=>?_
 refine St.seq ?_;refine St.region ?_;refine St.p O O ?_;refine St.done ?_;refine St.DK ?_;refine St.seq ?_;refine St.seq ?_;refine St.region ?_;obtain⟨d0,K,a⟩:=jk a;refine St.Dj (zKY K) O O O O O ⟨GH,trivial⟩ ?_;refine St.p O O ?_;refine St.done ?_;refine St.DK ?_;refine St.cond _ O (λr=>?_) (λr=>?_)
 ·replace a:=cH r a
  refine St.seq ?_;refine St.region ?_;refine St.p O O ?_;refine St.done ?_;refine St.DK ?_;refine St.ret ?_
  repeat(first|refine St.TL ?_|refine St.aj ?_)
  injection a with a;subst a;exact St.TP UO (.tmp O .nil) O [] ⟨O,O⟩ (zl [] 2 O)
 ·replace a:=cE r a
  refine St.skip ?_;refine St.DK ?_;refine St.seq ?_;refine St.region ?_;refine St.p O O ?_;obtain⟨d1,L,a⟩:=jk a;refine St.call (zPI L) O O O O zw ?_;rintro _ _ ⟨c,d2,d3,rfl,rfl⟩;refine St.p O O ?_;refine St.done ?_;refine St.DK ?_;refine St.seq ?_;refine St.region ?_;refine St.p O O ?_;obtain⟨e,M,a⟩:=jk a;refine St.call (zJA M) O O O O (zd [1,2] [1] 0 O) ?_;rintro _ _ ⟨h,y,z,B,C,D,E,N,P,Q,R,F,S,T,U,V,W,X,Y,Z,a0,o,q,a3,a4,a5,a6,a7,a8,a9,b0,b1,b2,b3,b4,b5,b6,b7,b8,b9,c0,c1,rfl,rfl⟩;refine St.BF (F':=PF h c (e.2.1,e.1,e.2.2.2.2.2.1,e.2.2.2.2.2.2.1,e.2.2.2.2.2.2.2.1,e.2.2.2.1,e.2.2.2.2.2.2.2.2,e.2.2.2.2.1) ⟨B,C,D,y,E,z,F,λi=>[Q,N,U,W,Y,a0,q,a4,a6,a8,b0,b2,b4,b6,b8,c0,S].getD i none,λi=>[R,P,V,X,Z,o,a3,a5,a7,a9,b1,b3,b5,b7,b9,c1,T].getD i 0⟩++m) (zl [27,1,0,1,1,1,1,1,1,1,1,0,1,0,3,3,3,3,3,3,3,3,0,0,1,1,0] 1 O) ?_;generalize (⟨B,C,D,y,E,z,F,_,_⟩:Xd)=c2
  iterate 5 refine St.p O O ?_
  refine St.done ?_;refine St.DK ?_;refine St.seq ?_;refine St.seq ?_;refine St.region ?_;refine St.p O O ?_;refine St.p O O ?_;refine St.done ?_;refine St.DK ?_;refine St.cond _ O (λs=>?_) (λs=>?_)
  ·replace a:=cH s a
   refine St.seq ?_;refine St.region ?_;refine St.p O O ?_;refine St.done ?_;refine St.DK ?_;refine St.ret ?_
   repeat(first|refine St.TL ?_|refine St.aj ?_)
   injection a with a;subst a;exact St.TP UO (.tmp O .nil) O [] ⟨O,O⟩ (zl [] 27 O)
  ·replace a:=cE s a
   refine St.skip ?_;refine St.DK ?_;refine St.seq ?_;refine St.seq ?_;refine St.region ?_;refine St.p O O ?_;refine St.done ?_;refine St.DK ?_;obtain⟨c3,c4,a⟩:=jk a;refine St.Lp (σ:=Unit) (ε:=Unit) (λ_ _=>[]) (λ_ _=>m) (λG=>c3=.inr G) ?_ ?_
   ·refine St.block ?_
    refine St.loop c4 (ε:=Xd) (λt k=>[(3,BX c),(4,BX h),(6,AO t.1)]) (λt k=>PF h c t.2 k++m) (λ_ _=>True) c2 trivial (zb O) zw λH j _ Nv=>?_
    obtain⟨d4,I,J⟩:=zTe Nv;have b:=I;refine St.seq ?_;refine St.seq ?_;obtain⟨c5,d,b⟩:=jk b;refine St.Lm (ε:=Xd) (λk=>[(3,BX c),(4,BX h),(6,AO H.1),(23,.bool c5)]) (λk=>PF h c H.2 j++m) ?_ ?_
    ·refine St.region ?_
     iterate 3 refine St.p O O ?_
     refine St.VG (dj:=20) _ O (λu=>?_) (λu=>?_)
     ·replace d:=cH u d
      refine St.CV (dj:=20) O O ?_;refine St.p O O ?_;refine St.CV (dj:=20) O O ?_;obtain⟨d5,c6,d⟩:=jk d;refine St.call (fI (A:=j.A 1) (a:=j.c 1) (b:=c) c6) O O O O (zd [3] [13] 0 O) ?_;rintro _ _ ⟨rfl,rfl⟩;refine St.p O O ?_;refine St.done ?_;injection d with d;subst d;refine St.DK ?_;exact St.VH j (zb O) (zl [1,1,1,1,1,1,1,1,1,1,1,1,1,0] 0 O)
     ·replace d:=cE u d
      refine St.ZC (dj:=20) O O O O ?_;refine St.ZC (dj:=20) O O O O ?_;refine St.p O O ?_;refine St.done ?_;injection d with d;subst d;refine St.DK ?_;exact St.VH j (zb O) zw
    ·rintro d7
     refine St.cond _ O (λv=>?_) (λv=>?_)
     ·replace b:=cH v b
      refine St.skip ?_;refine St.DK ?_;refine St.seq ?_;refine St.block ?_;refine St.seq ?_;refine St.region ?_;refine St.p O O ?_;refine St.p O O ?_;obtain⟨d8,c7,b⟩:=jk b;refine St.call (yAf (g:=h) (gc:=c) (e:=j) c7) O O O O zw ?_;rintro _ _ ⟨c8,rfl,rfl⟩;refine St.p O O ?_;refine St.done ?_;refine St.DK ?_;refine St.cond _ O (λw=>?_) (λw=>?_)
      ·replace b:=cH w b
       refine St.seq ?_;refine St.region ?_;refine St.p O O ?_;refine St.done ?_;refine St.DK ?_;refine St.ret ?_
       repeat(first|refine St.TL ?_|refine St.aj ?_)
       injection b with b;subst b;have l:=J _ O;subst l;have a:some _=some _:=a;injection a with a;subst a;exact St.TP UO (.tmp O .nil) O [] ⟨O,O⟩ (zl [] 27 O)
      ·replace b:=cE w b
       refine St.skip ?_;refine St.KW ?_;refine St.DK ?_;refine St.region ?_
       iterate 3 refine St.p O O ?_
       refine St.done ?_;injection b with b;subst b;refine St.DK ?_;exact St.again _ c8 I trivial (zb O) zw
     ·replace b:=cE v b
      refine St.exit ?_
      repeat(first|refine St.VF ?_|refine St.QJ rfl ?_)
      refine St.QV ?_;injection b with b;subst b;have l:=J _ O;subst l;refine St.DK ?_;exact St.EK () () O (zb O) (zl [] 27 O)
   ·rintro G _ l
    subst l;have a:=KF a;refine St.seq ?_;refine St.region ?_;refine St.p O O ?_;refine St.done ?_;refine St.DK ?_;refine St.ret ?_
    repeat(first|refine St.TL ?_|refine St.aj ?_)
    injection a with a;subst a;exact St.TP UO (.tmp O .nil) O [] ⟨O,O⟩ zw
def EW(l:List Int):Prop:=∀x∈l,0<=x/\x<=255
def EW.nil:EW []:=λx h=>by cases h
variable{X:List Int}
def EW.app{m:List Int}(h:EW X)(k:EW m):EW (X++m):=λx a=>by
 rcases DW.1 a with a|a
 ·exact h x a
 ·exact k x a
variable{V:Int}
def EW.cons(h:0<=V/\V<=255)(k:EW X):EW (V::X):=λy hy=>by
 rcases EC.1 hy with rfl|hy
 ·exact h
 ·exact k y hy
def EW.sub{m:List Int}(h:EW X)(k:∀x∈m,x∈X):EW m:=λx a=>h x (k x a)
def EW.take{l:List Int}(h:EW l)(n:Nat):EW (l.take n):=h.sub λ_ a=>OE a
def EW.drop{l:List Int}(h:EW l)(n:Nat):EW (l.drop n):=h.sub λ_ a=>XD a
def EW.set{l:List Int}(h:EW l)(n:Nat){v:Int}(b:0<=v/\v<=255):EW (l.set n v):=λx a=>by
 rcases TR a with a|a
 ·exact h x a
 ·omega
def EW.get(h:EW X)(i:Nat):0<=X.getD i 0/\X.getD i 0<=255:=by
 rw[IC];cases a:X[i]?with
 |none=>exact⟨ZA 0,by decide⟩|some x=>exact h x (MQ a)
theorem EW.rep(a:0<=V/\V<=255):EW (List.replicate f V):=λx b=>by grind
def pD(h:0<=V/\V<=255):∃n:Nat,n<256/\V=(n:Int):=⟨V.toNat,by omega,by omega⟩
variable{i6:Int}
def U6(d:0<=V/\V<=255)(hy:0<=i6/\i6<=255):0<=uJ .u8 V i6/\uJ .u8 V i6<=255:=by obtain⟨a,e,rfl⟩:=pD d;obtain⟨b,c,rfl⟩:=pD hy;rw[O3 e c];have:=XM (n:=8) a (y:=b) c;omega
def Xf(e:0<=V/\V<=255)(hy:0<=i6/\i6<=255):0<=GR .u8 V i6/\GR .u8 V i6<=255:=by obtain⟨a,c,rfl⟩:=pD e;obtain⟨b,d,rfl⟩:=pD hy;rw[Rw c d];have:=QA (n:=8) c d;omega
def zYg(b:0<=V/\V<=255):uJ .u8 255 V=V:=by obtain⟨a,c,rfl⟩:=pD b;have:(255:Int)=((255:Nat):Int):=rfl;rw[this,O3 (by decide) c,Nat.and_comm];have e:a&&&255=a%2^8:=ou a 8;omega
def yAK(c:0<=V/\V<=255):GR .u8 V 255=255:=by
 obtain⟨a,b,rfl⟩:=pD c;have:(255:Int)=((255:Nat):Int):=rfl;rw[this,Rw b (by decide)];have h:∀a:Fin 256,a.val|||255=255:=by decide+kernel
 rw[h ⟨a,b⟩]
theorem or_zero(c:0<=V/\V<=255)(hy:0<=i6/\i6<=255):GR .u8 V i6=0↔V=0/\i6=0:=by obtain⟨a,d,rfl⟩:=pD c;obtain⟨b,e,rfl⟩:=pD hy;rw[Rw d e];simp_all
def yBw(b:0<=V/\V<=255):GR .u8 V 0=V:=by obtain⟨a,c,rfl⟩:=pD b;have:(0:Int)=((0:Nat):Int):=rfl;rw[this,Rw c (by decide),Nat.or_zero]
structure JD(d:zB):Prop where
 size:64<=d.size/\d.size<=1024
 BO:1<=d.BO.length/\d.BO.length<=16
 len:(d.bytes.length:Int)=d.BO.length*d.size
 EW:EW d.bytes
 DT:0<=d.DT/\d.DT<=255
 left:0<=d.left/\d.left<=9223372036854775807
variable{W:zB}
def JD.bound(h:JD W):W.bytes.length<=16384:=by have a:=h.len;have b:=h.size;have c:=h.BO;have:(W.BO.length:Int)*W.size<=16*1024:=Int.mul_le_mul (by omega) (by omega) (by omega) (by omega);omega
def xR(d:zB):zB×Bool:=
 if 0<d.left then(⟨d.size,d.bytes,d.BO,wrap .i64 (d.steps+1),d.left-1,d.DT,d.left-1==0⟩,d.left-1==0)
 else(⟨d.size,d.bytes,d.BO,wrap .i64 (d.steps+1),d.left,d.DT,d.down⟩,d.down)
theorem zTG(h:JD W):uW W=some (xR W):=by
 unfold uW xR;by_cases a:0<W.left
 ·rw[yT (by simpa using a),AQ a,yF (x:=W.left-1) (by have:=h.left;omega) (by have:=h.left;omega)]
 ·grind
def wW(d:zB):(xR d).1.bytes=d.bytes:=by unfold xR;split<;>rfl
def fH(d:zB):(xR d).1.size=d.size:=by unfold xR;split<;>rfl
def Xg(d:zB):(xR d).1.BO=d.BO:=by unfold xR;split<;>rfl
def oH(d:zB):(xR d).1.DT=d.DT:=by unfold xR;split<;>rfl
def U7(h:W.down=false):(xR W).1.down=(xR W).2:=by unfold xR;split<;>rfl
theorem bM(h:JD W):JD (xR W).1:=by
 refine⟨by rw[fH];exact h.size,by rw[Xg];exact h.BO,by rw[wW,Xg,fH];exact h.len,by rw[wW];exact h.EW,by rw[oH];exact h.DT,?_⟩;have:=h.left;unfold xR
 grind
def VT(d:zB)(i:Nat)(v:Int):zB:=⟨d.size,d.bytes.set i v,d.BO,d.steps,d.left,d.DT,d.down⟩
def Xh(h:JD W)(i:Nat)(a:0<=V/\V<=255):JD (VT W i V):=
 ⟨h.size,h.BO,by show((W.bytes.set i V).length:Int)=_;rw[SC];exact h.len,h.EW.set i a,h.DT,h.left⟩
def nX:zB->Nat->List Int->zB×Int
 |d,_,[]=>(d,0)|d,i,x::b=>
  if(xR d).2 then(VT (xR d).1 i (uJ .u8 (d.bytes.getD i 0) (GR .u8 x d.DT)),10)
  else nX (VT (xR d).1 i (uJ .u8 (d.bytes.getD i 0) x)) (i+1) b
def zQS:∀(b:List Int) (d:zB) (i:Nat),JD d->EW b->JD (nX d i b).1/\(nX d i b).1.size=d.size/\(nX d i b).1.BO=d.BO/\(nX d i b).1.bytes.length=d.bytes.length/\(nX d i b).1.DT=d.DT
 |[],d,i,h,_=>⟨h,O,O,O,O⟩|x::b,d,i,h,a=>by
  have c:=a x (by simp);unfold nX;split
  ·exact⟨Xh (bM h) i (U6 (h.EW.get i) (Xf c h.DT)),fH d,Xg d,by simp[VT,wW],oH d⟩
  ·obtain⟨e,f,g,j,k⟩:=zQS b (VT (xR d).1 i (uJ .u8 (d.bytes.getD i 0) x)) (i+1) (Xh (bM h) i (U6 (h.EW.get i) c)) (λy hy=>a y (by simp[hy]))
   exact⟨e,f.trans (fH d),g.trans (Xg d),by rw[j];simp[VT,wW],k.trans (oH d)⟩
theorem gI{i:Nat}(h:i<X.length):CO X (i:Int)=some (X.getD i 0):=by simp_all
variable{i5:Type}
theorem uS{l:List i5}(h:f<l.length)(v:i5):uF l (f:Int) v=some (l.set f v):=by
 unfold uF
 grind
theorem zNy(h:JD W)(a n:Int)(e:-4611686018427387904<=a):rI W a n=some (decide (0<=a/\a<=W.bytes.length/\0<=n/\n<=W.bytes.length-a)):=by
 have f:=h.bound;unfold rI;by_cases b:a>=0
 ·rw[yT (by simpa using b)]
  by_cases c:a<=(W.bytes.length:Int)
  ·rw[yT (by simpa using c)]
   by_cases d:n>=0
   ·rw[yT (by simpa using d),AA,yF (by omega) (by omega)]
    congr 1;rw[QB];omega
   ·rw[yI (by simpa using d),AA]
    grind
  ·rw[yI (by simpa using c),AA]
   grind
 ·rw[yI (by simpa using b),AA]
  grind
def U8(c:Int)(d:List Int):zB×Int->Option (wZ (zB×Int) ((zB×Int)⊕zB)):=
 (λ(b:zB×Int)=>bif decide (b.2<(d.length:Int))then bnd (CO d b.2) λe=>bnd (uW b.1) λa=>bif a.2 then bnd (CO a.1.bytes (wrap .i64 (c+b.2))) λj=>bnd (CO a.1.bytes (wrap .i64 (c+b.2))) λf=>bnd (CO a.1.bytes (wrap .i64 (c+b.2))) λk=>bnd (uF a.1.bytes (wrap .i64 (c+b.2)) (uJ .u8 f (GR .u8 e a.1.DT))) λg=>some (.done (.inl ((⟨a.1.size,g,a.1.BO,a.1.steps,a.1.left,a.1.DT,a.1.down⟩:zB),10)))else(bnd (CO a.1.bytes (wrap .i64 (c+b.2))) λh=>bnd (uF a.1.bytes (wrap .i64 (c+b.2)) (uJ .u8 h e)) λi=>some (.next ((⟨a.1.size,i,a.1.BO,a.1.steps,a.1.left,a.1.DT,a.1.down⟩:zB),wrap .i64 (b.2+1))))else some (.done (.inr b.1)))
def zOH(r:zB×Int):(zB×Int)⊕zB:=if r.2=0 then .inr r.1 else .inl r
theorem zMQ(a:Nat)(b:List Int)(o:EW b):∀(c:List Int) (j:Nat) (d:zB),JD d->b.drop j=c->j+c.length=b.length->a+b.length<=d.bytes.length->
  zZ (U8 (a:Int) b) (d,(j:Int))=some (zOH (nX d (a+j) c))
 |[],j,d,g,r,m,s=>by refine yV ?_;unfold U8;simp only[KC]at m;rw[yI (by simp;omega)];rfl|x::c,j,d,g,r,m,s=>by
  have t:=g.bound;simp only[EP]at m;have i:j<b.length:=by omega
  have p:b[j]=x:=by
   have:=MO (h:=i)
   grind
  have f:b.drop (j+1)=c:=by
   have:=MO (h:=i)
   grind
  have n:=o x (by rw[<-p];exact DJ i);have l:a+j<(xR d).1.bytes.length:=by rw[wW];omega
  have q:wrap .i64 ((a:Int)+(j:Int))=((a+j:Nat):Int):=by rw[yF (by omega) (by omega)];omega
  have e:U8 (a:Int) b (d,(j:Int))=some (if(xR d).2 then .done (.inl (VT (xR d).1 (a+j) (uJ .u8 (d.bytes.getD (a+j) 0) (GR .u8 x d.DT)),10))else .next (VT (xR d).1 (a+j) (uJ .u8 (d.bytes.getD (a+j) 0) x),((j+1:Nat):Int))):=by
   unfold U8;simp only;rw[yT (by simp;omega),yN i,AA,p,zTG g,AA];cases k:(xR d).2
   ·rw[BB,q,gI l,AA,uS l,AA,zV i (by omega),wW,AP (by decide)]
    simp only[VT,wW]
   ·rw[BD,q,gI l,AA,AA,AA,uS l,AA,wW,oH,AQ O]
    simp only[VT,wW,oH]
  cases k:(xR d).2
  ·rw[k]at e
   refine xV e ?_;have:=zMQ a b o c (j+1) (VT (xR d).1 (a+j) (uJ .u8 (d.bytes.getD (a+j) 0) x)) (Xh (bM g) _ (U6 (g.EW.get _) n)) f (by omega) (by simp[VT,wW];omega);rw[this]
   conv=>rhs;unfold nX
   rw[AP (by rw[k];decide)];rfl
  ·rw[k]at e
   rw[yV e]
   conv=>rhs;unfold nX
   rw[AQ k];rfl
def Xi:∀(b:List Int) (d:zB) (i:Nat),(nX d i b).2=0\/(nX d i b).2=10
 |[],d,i=>.inl O|x::b,d,i=>by
  unfold nX;split
  ·omega
  ·exact Xi b _ _
theorem zQg(r:zB×Int)(h:r.2=0\/r.2=10):(xX (zOH r) λa=>some (a,0))=some r:=by
 unfold zOH;rcases h with h|h
 ·rw[AQ h,FD,<-h]
 ·simp_all
def yO(d:zB)(a:Int)(b:List Int):zB×Int:=
 if d.down then(d,10)else if 0<=a/\a<=d.bytes.length/\0<=(b.length:Int)/\(b.length:Int)<=d.bytes.length-a then nX d a.toNat b else(d,2)
theorem U9(h:JD W)(d:EW X)(a:Int)(b:-4611686018427387904<=a):vO W a X=some (yO W a X):=by
 unfold vO yO;cases f:W.down
 ·rw[BB,zNy h a _ b,AA]
  by_cases c:0<=a/\a<=W.bytes.length/\0<=(X.length:Int)/\(X.length:Int)<=W.bytes.length-a
  ·rw[AP (by simp),AQ c,yI (by simp only[c,LJ];rfl)]
   have:=zMQ a.toNat X d X 0 W h O (by omega) (by omega);have e:((a.toNat:Nat):Int)=a:=by omega
   rw[e]at this;exact yL this (zQg _ (Xi X W _))
  ·grind
 ·rfl
theorem zQe(h:JD W)(b:EW X)(a:Int):JD (yO W a X).1/\(yO W a X).1.size=W.size/\(yO W a X).1.BO=W.BO/\(yO W a X).1.bytes.length=W.bytes.length/\(yO W a X).1.DT=W.DT:=by
 unfold yO;split
 ·grind
 ·split
  ·exact zQS X W _ h b
  ·grind
def gE(h:X.length<=1000000):yG X=some X:=by unfold yG;rw[wF (by simp;omega) (by simp;omega)];rfl
def V3(d:zB)(a n:Int):List Int×Int:=
 if d.down then([],10)else if 0<=a/\a<=d.bytes.length/\0<=n/\n<=d.bytes.length-a then((d.bytes.drop a.toNat).take n.toNat,0)else([],2)
theorem zUa(h:JD W)(b n:Int)(c:-4611686018427387904<=b):sT W b n=some (W,V3 W b n):=by
 have g:=h.bound;unfold sT V3;cases i:W.down
 ·rw[BB,zNy h b _ c,AA]
  by_cases d:0<=b/\b<=W.bytes.length/\0<=n/\n<=W.bytes.length-b
  ·rw[AP (by simp),AQ d,yI (by simp only[d,LJ];rfl),yF (by omega) (by omega)]
   obtain⟨a,rfl⟩:∃a:Nat,b=(a:Int):=⟨b.toNat,by omega⟩;obtain⟨k,rfl⟩:∃k:Nat,n=(k:Int):=⟨n.toNat,by omega⟩
   have e:rO W.bytes.length (a:Int) ((a:Int)+(k:Int))=some k:=by
    unfold rO
    grind
   have f:Go.Proofs.YtjconpohbhlcmaaGreatDoor.sub W.bytes (((a:Int).toNat:Nat):Int) (((a:Int).toNat+k:Nat):Int)=some ((W.bytes.take (a+k)).drop a):=by unfold Go.Proofs.YtjconpohbhlcmaaGreatDoor.sub;rw[AQ ⟨by omega,by omega,by omega⟩];congr 2
   rw[e,AA,f,AA,gE (by simp;omega),AA]
   grind
  ·grind
 ·rw[BD,AQ O]
def PL(l:List Int)(a n:Nat)(v:Int):List Int:=l.take a++((l.drop a).take n).map (λx=>GR .u8 x v)++l.drop (a+n)
def zOq(l:List Int)(a n:Nat)(v:Int)(h:a+n<=l.length):(PL l a n v).length=l.length:=by simp only[PL,ER,DV,FQ,EM];omega
def yAm(h:EW X)(a n:Nat)(b:0<=V/\V<=255):EW (PL X a n V):=by refine((h.take a).app λx c=>?_).app (h.drop _);obtain⟨y,hy,rfl⟩:=FM.1 c;exact Xf (((h.drop a).take n) y hy) b
def zKu(l:List Int)(a:Nat)(v:Int):PL l a 0 v=l:=by simp[PL]
theorem zQy(v:Int)(h:f+e<X.length):(PL X f e v).set (f+e) (GR .u8 (X.getD (f+e) 0) v)=PL X f (e+1) v:=by
 unfold PL
 have a:(X.take f++((X.drop f).take e).map (λx=>GR .u8 x v)).length=f+e:=by grind
 have b:X.drop (f+e)=X[f+e]::X.drop (f+(e+1)):=(MO (h:=h)).symm
 have c:(X.drop f).take (e+1)=(X.drop f).take e++[X[f+e]]:=by rw[xA (by simp;omega)];simp
 rw[tu _ _ (by omega),a,KI,b,c,IC,CJ h];simp
theorem zUE(v:Int)(h:f+e<X.length):(PL X f e v).getD (f+e) 0=X.getD (f+e) 0:=by
 unfold PL
 grind
def NF(d:zB)(i:Nat):zB:=⟨d.size,d.bytes,d.BO.set i (wrap .i64 (d.BO.getD i 0+1)),d.steps,d.left,d.DT,d.down⟩
def WB(d:zB)(b:List Int):zB:=⟨d.size,b,d.BO,d.steps,d.left,d.DT,d.down⟩
def tJ(d:zB)(s:Int):zB×Int:=
 if d.down then(d,10)else if s<0\/s>=d.BO.length then(d,2)else
  (WB (xR (NF d s.toNat)).1 (PL d.bytes (s.toNat*d.size.toNat) d.size.toNat (if(xR (NF d s.toNat)).2 then d.DT else 255)),if(xR (NF d s.toNat)).2 then 10 else 0)
def Xj(h:JD W)(i:Nat):JD (NF W i):=
 ⟨h.size,by show 1<=(W.BO.set _ _).length/\(W.BO.set _ _).length<=16;rw[SC];exact h.BO,by show(W.bytes.length:Int)=((W.BO.set _ _).length:Int)*_;rw[SC];exact h.len,h.EW,h.DT,h.left⟩
def yBs(h:JD W)(a:X.length=W.bytes.length)(b:EW X):JD (WB W X):=
 ⟨h.size,h.BO,by show(X.length:Int)=_;rw[a];exact h.len,b,h.DT,h.left⟩
theorem uE(h:JD W)(a:f<W.BO.length):f*W.size.toNat+W.size.toNat<=W.bytes.length:=by
 have b:=h.len;have c:=h.size;obtain⟨z,hz⟩:∃z:Nat,W.size=(z:Int):=⟨W.size.toNat,by omega⟩;have d:(f+1)*z<=W.BO.length*z:=MR _ (by omega)
 grind
theorem zXh(h:JD W)(s:Int)(D:s<=4611686018427387904):nG W s=some (tJ W s):=by
 have E:=h.bound;unfold nG tJ;cases p:W.down
 ·rw[BB,AP (by simp)]
  by_cases b:s<0
  ·rw[yT (by simpa using b),AA,BD,AQ (.inl b)]
  ·rw[yI (by simpa using b),AA]
   by_cases c:s>=W.BO.length
   ·rw[yT (by simpa using c),AQ (.inr c)]
   ·rw[yI (by simpa using c),AP (by omega)]
    obtain⟨k,rfl⟩:∃k:Nat,s=(k:Int):=⟨s.toNat,by omega⟩;have i:k<W.BO.length:=by omega
    have q:=h.BO;have r:=bM (Xj h k);have l:uW (⟨W.size,W.bytes,W.BO.set k (wrap .i64 (W.BO.getD k 0+1)),W.steps,W.left,W.DT,false⟩:zB)=some (xR (NF W k)):=by rw[<-zTG (Xj h k)];simp only[NF,p]
    rw[gI i,AA,uS i,AA,l,AA];have hz:=h.size;obtain⟨z,e⟩:∃z:Nat,W.size=(z:Int):=⟨W.size.toNat,by omega⟩;have m:(xR (NF W k)).1.size=(z:Int):=(fH _).trans e;have f:(xR (NF W k)).1.bytes=W.bytes:=wW _;have g:=uE h i;rw[e]at g;have t:k*z+z<=W.bytes.length:=g
    have u:wrap .i64 ((k:Int)*(z:Int))=((k*z:Nat):Int):=by
     have:(k:Int)*(z:Int)=((k*z:Nat):Int):=by simp
     rw[this,xN (by omega)]
    have w:wrap .i64 (wrap .i64 ((k:Int)+1)*(z:Int))=((k*z+z:Nat):Int):=by
     rw[yF (x:=(k:Int)+1) (by omega) (by omega)];have:((k:Int)+1)*(z:Int)=((k*z+z:Nat):Int):=by simp[ZB]
     rw[this,xN (by omega)]
    simp only[m,f,u,w]
    have n:rO W.bytes.length ((k*z:Nat):Int) ((k*z+z:Nat):Int)=some z:=by unfold rO;rw[AQ ⟨by omega,by omega,by omega⟩];congr 1;omega
    have y:(bif(xR (NF W k)).2 then some (xR (NF W k)).1.DT else some 255)=some (if(xR (NF W k)).2 then W.DT else 255):=by rw[oH];cases(xR (NF W k)).2<;>rfl
    rw[y,AA,n,AA];generalize F:(if(xR (NF W k)).2=true then W.DT else 255)=v;have A:((k*z:Nat):Int).toNat=k*z:=rfl;rw[A];refine xM (λj=>(WB (xR (NF W k)).1 (PL W.bytes (k*z) j v),(j:Int))) z (WB (xR (NF W k)).1 (PL W.bytes (k*z) z v)) ?_ (λj B=>?_) ?_ ?_
    ·rw[zKu,<-f];rfl
    ·have d:k*z+j<W.bytes.length:=by omega
     have a:k*z+j<(PL W.bytes (k*z) j v).length:=by rw[zOq _ _ _ _ (by omega)];exact d
     have o:UY (PL W.bytes (k*z) j v) (k*z) z (j:Int)=some (W.bytes.getD (k*z+j) 0):=by
      unfold UY;rw[AQ ⟨by omega,by omega⟩];have:((k*z:Nat):Int)+(j:Int)=((k*z+j:Nat):Int):=by omega
      rw[this,gI a,zUE v d]
     have C:uF (PL W.bytes (k*z) j v) (((k*z:Nat):Int)+(j:Int)) (GR .u8 (W.bytes.getD (k*z+j) 0) v)=some (PL W.bytes (k*z) (j+1) v):=by
      have:((k*z:Nat):Int)+(j:Int)=((k*z+j:Nat):Int):=by omega
      rw[this,uS a,zQy v d]
     simp only[WB];rw[yT (by simp;omega),o,AA,AA,C,AA,zV B (by omega)]
    ·simp only
     rw[yI (by simp)]
    ·grind
 ·rw[BD,AQ O]
theorem zIJ(h:JD W)(s:Int):JD (tJ W s).1/\(tJ W s).1.size=W.size/\(tJ W s).1.BO.length=W.BO.length/\(tJ W s).1.bytes.length=W.bytes.length/\(tJ W s).1.DT=W.DT:=by
 unfold tJ;split
 ·grind
 ·split
  ·grind
  ·have d:s.toNat<W.BO.length:=by omega
   have a:=uE h d;have c:=zOq W.bytes (s.toNat*W.size.toNat) W.size.toNat (if(xR (NF W s.toNat)).2 then W.DT else 255) a;have b:0<=(if(xR (NF W s.toNat)).2 then W.DT else 255)/\(if(xR (NF W s.toNat)).2 then W.DT else 255)<=255:=by split;exact h.DT;decide
   refine⟨yBs (bM (Xj h _)) ?_ (yAm h.EW _ _ b),fH _,?_,c,oH _⟩
   ·rw[wW];exact c
   ·show(xR (NF W s.toNat)).1.BO.length=_
    rw[Xg];simp[NF]
def Bq(d:zB)(n t:Int):zB:=if d.down then d else⟨d.size,d.bytes,d.BO,d.steps,max n 0,t,d.down⟩
theorem yBg(d:zB)(n t:Int):lJ d n t=some (Bq d n t):=by
 unfold lJ Bq
 grind
def yAl(h:JD W){t:Int}(b:V<=9223372036854775807)(a:0<=t/\t<=255):JD (Bq W V t):=by
 unfold Bq;split
 ·exact h
 ·exact⟨h.size,h.BO,h.len,h.EW,a,by show 0<=max V 0/\max V 0<=_;omega⟩
def bZ(d:zB):zB:=⟨d.size,d.bytes,d.BO,d.steps,0,d.DT,false⟩
def zKn(h:JD W):JD (bZ W):=⟨h.size,h.BO,h.len,h.EW,h.DT,by show 0<=(0:Int)/\(0:Int)<=_;decide⟩
def zZx(h:∀x∈X,x=0)(d:X.length<=1000000):vC X=some false:=by
 unfold vC tV;refine yL (a:=-1) ?_ O;refine xM (λi=>(i:Int)) X.length (.inr ()) O (λi b=>?_) ?_ O
 ·have c:=h _ (DJ b)
  rw[BK (by omega:(i:Int)<(X.length:Int)),BD,yN b,AA,c];unfold lN;rw[AA,zV b (by omega)];rfl
 ·rw[BV (by omega:¬(X.length:Int)<(X.length:Int))]
  rfl
def zTh{l:List Bool}(h:l.length<=1000000):uR l=some l:=by unfold uR;rw[wF (by simp;omega) (by simp;omega),AA];simp
def Gi{a:Type}(f:a->a):Nat->a->a
 |0,x=>x|n+1,x=>f (Gi f n x)
def bN(x:Int):Prop:=0<=x/\x<=4294967295
def zDt(x:Int):bN (wrap .u32 x):=by rw[dC];constructor<;>omega
def zCS(x y:Int):bN (VZ .u32 x y):=zDt _
def Es(c:Int):Int:=VZ .u32 (sI .u32 c 1) (wrap .u32 ((uJ .u32 c 1)*3988292384))
def Om(c x:Int):Int:=Gi Es 8 (VZ .u32 c (wrap .u32 x))
def Ry(l:List Int):Int:=l.foldl Om 4294967295
def zSo(c:Int):bN (Es c):=zCS _ _
def zNb(h:bN V):∀n,bN (Gi Es n V)
 |0=>h|n+1=>zSo _
def zSL(c x:Int):bN (Om c x):=zNb (zCS _ _) 8
def zOK(l:List Int):bN (Ry l):=by
 unfold Ry
 have:∀(l:List Int) (c:Int),bN c->bN (l.foldl Om c):=by
  intro l;induction l with
  |nil=>intro c h;exact h
  |cons x r a=>intro c _;exact a _ (zSL c x)
 exact this l _ ⟨by omega,by omega⟩
def zBP(h:bN V):(BitVec.ofInt 32 V).toNat=V.toNat:=by rw[TW];have:=h.1;have:=h.2;omega
def zRn(h:bN V):VZ .u32 V 0=V:=by
 unfold VZ
 have e:(BitVec.ofInt (IntKind.bits .u32) V^^^BitVec.ofInt (IntKind.bits .u32) 0).toNat=V.toNat:=by show(BitVec.ofInt 32 V^^^BitVec.ofInt 32 0).toNat=_;rw[<-zBP h];simp
 rw[e,dC];have:=h.1;have:=h.2;omega
def zSE(h:bN V):uJ .u32 V 1=V%2:=by
 unfold uJ
 have e:(BitVec.ofInt (IntKind.bits .u32) V&&&BitVec.ofInt (IntKind.bits .u32) 1).toNat=V.toNat%2:=by
  show(BitVec.ofInt 32 V&&&BitVec.ofInt 32 1).toNat=_;rw[SA,zBP h];have:(BitVec.ofInt 32 1).toNat=1:=by decide
  rw[this,Nat.and_one_is_mod]
 rw[e,dC];have:=h.1;have:=h.2;omega
def zSV(h:bN V):sI .u32 V 1=V/2:=by
 unfold sI;have:(2:Int)^(min (Int.toNat 1) (IntKind.bits .u32))=2:=by decide
 rw[this,qg _ (by omega)]
def zZe(h:bN V):Es V=bif(V.tmod 2==1)then VZ .u32 (wrap .u32 (V.tdiv 2)) 3988292384 else wrap .u32 (V.tdiv 2):=by
 unfold Es;have b:=h.1;have e:=h.2
 have c:wrap .u32 (V.tdiv 2)=V/2:=by rw[qh b,zPC (by omega) (by omega)]
 have d:V.tmod 2=V%2:=qj b;rw[zSV h,zSE h,c,d];rcases Int.emod_two_eq V with a|a
 ·rw[a]
  have:wrap .u32 (0*3988292384)=0:=by rw[dC];decide
  rw[this,zRn ⟨by omega,by omega⟩];rfl
 ·rw[a]
  have:wrap .u32 (1*3988292384)=3988292384:=by rw[dC];decide
  rw[this];rfl
def yAr(h:bN V):VZ .u32 (if IntKind.signed .u32 then-1 else IntKind.max .u32) V=wrap .u32 (4294967295-V):=by
 have b:=h.1;have c:=h.2;have a:(if IntKind.signed .u32 then-1 else IntKind.max .u32:Int)=4294967295:=by decide
 rw[a];unfold VZ
 have e:(BitVec.ofInt (IntKind.bits .u32) 4294967295^^^BitVec.ofInt (IntKind.bits .u32) V).toNat=4294967295-V.toNat:=by
  show(BitVec.ofInt 32 4294967295^^^BitVec.ofInt 32 V).toNat=_;have:BitVec.ofInt 32 4294967295=BitVec.allOnes 32:=by decide
  rw[this,<-BitVec.not_def,BitVec.toNat_not,zBP h]
 rw[e];congr 1;omega
def zNH{a:Type}{m:a×Int->Option (wZ (a×Int) a)}(b:List i5)(f:a->i5->a)(c:a)(q:b.length<=140737488355328)(I:a->Prop)(g:I c)(j:∀s x,I s->I (f s x))(k:∀(i:Nat) (s:a) (h:i<b.length),I s->m (s,(i:Int))=some (.next (f s b[i],((i+1:Nat):Int))))(o:∀s,m (s,(b.length:Int))=some (.done s)):zZ m (c,0)=some (b.foldl f c):=by
 have d:∀n,I ((b.take n).foldl f c):=by
  intro n
  have:∀(l:List i5) (s:a),I s->I (l.foldl f s):=by
   intro l;induction l with
   |nil=>intro s h;exact h
   |cons x r p=>intro s h;exact p _ (j s x h)
  exact this _ _ g
 have:=rF (m:=m) (λi=>((b.take i).foldl f c,(i:Int))) b.length (t:=b.foldl f c) (λi e=>?_) (by simp only[GU];exact o _)
 ·simpa using this
 ·rw[k i _ e (d i),xA e,XT]
  rfl
def zRv(b:List Int)(d:b.length<=140737488355328):vW b=some (wrap .u32 (4294967295-Ry b)):=by
 unfold vW;rw[zNH b Om 4294967295 d (λ_=>True) trivial (λ_ _ _=>trivial) (λi s c _=>?_) (λs=>by simp)]
 ·simp only[AA]
  exact congrArg some (yAr (zOK b))
 ·have e:decide ((i:Int)<(b.length:Int))=true:=by simpa using c
  simp only[e,BD,yN c,AA]
  have:=rF (m:=λ(a:Int×Int)=>bif decide (a.2<8)then some (.next (VZ .u32 (sI .u32 a.1 1) (wrap .u32 ((uJ .u32 a.1 1)*3988292384)),wrap .i64 (a.2+1)))else some (.done a.1)) (λk=>(Gi Es k (VZ .u32 s (wrap .u32 b[i])),(k:Int))) 8 (t:=Om s b[i]) (λk f=>by
   have:decide ((k:Int)<8)=true:=by simp;omega
   simp only[this,BD];rw[zV (n:=8) f (by omega)];rfl) O
  simp only[Gi,Int.ofNat_zero]at this;rw[this];simp only[AA];rw[zV c d]
def zOc(b:List Int)(d:b.length<=140737488355328):rU b=some (wrap .u32 (4294967295-Ry b)):=by
 unfold rU;rw[zNH b Om 4294967295 d (λ_=>True) trivial (λ_ _ _=>trivial) (λi s c _=>?_) (λs=>by simp)]
 ·rfl
 ·have e:decide ((i:Int)<(b.length:Int))=true:=by simpa using c
  simp only[e,BD,yN c,AA]
  have:=rF (m:=λ(a:Int×Int)=>bif decide (a.2<8)then bif((a.1.tmod 2)==1)then some (.next (VZ .u32 (wrap .u32 (a.1.tdiv 2)) 3988292384,wrap .i64 (a.2+1)))else(some (.next (wrap .u32 (a.1.tdiv 2),wrap .i64 (a.2+1))))else some (.done a.1)) (λk=>(Gi Es k (VZ .u32 s (wrap .u32 b[i])),(k:Int))) 8 (t:=Om s b[i]) (λk f=>by
   have g:decide ((k:Int)<8)=true:=by simp;omega
   simp only[g,BD];rw[zV (n:=8) f (by omega)];have h:bN (Gi Es k (VZ .u32 s (wrap .u32 b[i]))):=zNb (zCS _ _) k;show _=some (wZ.next (Es (Gi Es k (VZ .u32 s (wrap .u32 b[i]))),_));rw[zZe h];cases((Gi Es k (VZ .u32 s (wrap .u32 b[i]))).tmod 2==1)<;>rfl) O
  simp only[Gi,Int.ofNat_zero]at this;rw[this];simp only[AA];rw[zV c d]
variable{i2:ByteArray}
def yAp(h:f<i2.size):JA i2 (f:Int)=some ((i2[f]).toNat:Int):=by simp[JA,h]
def PG(s:ByteArray)(i:Nat):Int:=((s[i]?).map λb=>(b.toNat:Int)).getD 0
def zPh{i:Nat}(h:i<i2.size):JA i2 (i:Int)=some (PG i2 i):=by rw[yAp h];simp[PG,h]
def bP(y:Int):Bool:=decide (y>=97)&&decide (y<=122)
def Gj(y:Int):Bool:=decide (y>=48)&&decide (y<=57)||(y==45)
def qY(s:ByteArray):Bool:=decide (1<=s.size)&&decide (s.size<=16)&&(bP (PG s 0)&&(List.range s.size).all λi=>bP (PG s i)||Gj (PG s i))
def zIi(s:ByteArray):sO s=some (qY s):=by
 unfold sO;by_cases C:s.size<1
 ·have:decide ((s.size:Int)<1)=true:=by simp;omega
  have h:decide (1<=s.size)=false:=BV (by omega);simp[this,qY,h]
 by_cases h:s.size>16
 ·have e:decide ((s.size:Int)<1)=false:=by simp;omega
  have f:decide ((s.size:Int)>16)=true:=by simp;omega
  have l:decide (s.size<=16)=false:=by simp;omega
  simp[e,f,qY,l]
 have e:decide ((s.size:Int)<1)=false:=by simp;omega
 have f:decide ((s.size:Int)>16)=false:=by simp;omega
 simp only[e,f,BB,AA]
 have j:=Wu (m:=λ(c:Int)=>bif decide (c<(s.size:Int))then bnd (bnd (JA s c) λk=>bif decide (k>=97)then some (decide (k<=122))else some false:Option Bool) λn=>bnd (bnd (JA s c) λd=>bif decide (d>=48)then bif decide (d<=57)then some true else(some (d==45))else some (d==45):Option Bool) λo=>bnd (bif !n then bif(c==0)then some true else(some (!o))else some false:Option Bool) λp=>bif p then some (.done (.inl false))else(some (.next (wrap .i64 (c+1))))else some (.done (.inr ())))
  (λi=>(i:Int)) s.size (λi=>!bP (PG s i)&&(decide (i=0)||!Gj (PG s i))) (u:=(Sum.inl false:Bool⊕Unit)) (t:=.inr ()) (λi a=>?_) (by simp)
 ·rw[show((0:Nat):Int)=0 from O]at j
  rw[j];simp only[AA]
  have q:qY s=!(List.range s.size).any (λi=>!bP (PG s i)&&(decide (i=0)||!Gj (PG s i))):=by
   unfold qY;have r:decide (1<=s.size)=true:=by simp;omega
   have v:decide (s.size<=16)=true:=by simp;omega
   rw[r,v,FK];simp only[GL,GX,List.all_eq_true,JS,KZ,JQ,RV,FP,not_and,MK];constructor
   ·rintro⟨w,x⟩ i a b
    rcases x i a with g|g
    ·simp[g]at b
    ·refine⟨λy=>?_,by simp[g]⟩
     subst y;simp[w]at b
   ·intro g
    have z:bP (PG s 0)=true:=by
     cases b:bP (PG s 0)
     ·exact absurd O (g 0 (by omega) (by simp[b])).1
     ·rfl
    refine⟨z,λi a=>?_⟩;cases b:bP (PG s i)
    ·right
     have:=(g i a (by simp[b])).2;simpa using this
    ·exact .inl O
  rw[q];cases(List.range s.size).any (λi=>!bP (PG s i)&&(decide (i=0)||!Gj (PG s i)))<;>rfl
 ·have A:decide ((i:Int)<(s.size:Int))=true:=by simpa using a
  have B:((i:Int)==0)=decide (i=0):=by rw[FK];simp
  simp only[A,BD,zPh a,AA,B,zV a (by omega:s.size<=140737488355328),bP,Gj];cases decide (PG s i>=97)<;>cases decide (PG s i<=122)<;>cases decide (PG s i>=48)<;>cases decide (PG s i<=57)<;>cases(PG s i==45)<;>cases decide (i=0)<;>rfl
def zLr(s:ByteArray):rQ s=some (qY s):=by
 unfold rQ;by_cases D:s.size<1
 ·have:decide ((s.size:Int)<1)=true:=by simp;omega
  have q:decide (1<=s.size)=false:=BV (by omega);simp[this,qY,q]
 by_cases q:s.size>16
 ·have e:decide ((s.size:Int)<1)=false:=by simp;omega
  have f:decide ((s.size:Int)>16)=true:=by simp;omega
  have v:decide (s.size<=16)=false:=by simp;omega
  simp[e,f,qY,v]
 have e:decide ((s.size:Int)<1)=false:=by simp;omega
 have f:decide ((s.size:Int)>16)=false:=by simp;omega
 have h:JA s 0=some (PG s 0):=zPh (i:=0) (by omega);have w:decide (1<=s.size)=true:=by simp;omega
 have y:decide (s.size<=16)=true:=by simp;omega
 simp only[e,f,BB,AA,h];cases d:bP (PG s 0)
 ·have j:qY s=false:=by simp[qY,d]
  rw[j];simp only[bP,uf,JO]at d;by_cases g:PG s 0<97
  ·simp[g]
  ·have k:PG s 0>122:=by omega
   simp[g,k]
 ·have l:=d
  simp only[bP,GX,FP]at l;have z:decide (PG s 0<97)=false:=by simp;omega
  have k:decide (PG s 0>122)=false:=by simp;omega
  simp only[z,k,BB,AA]
  have r:=Wu (m:=λ(n:Int)=>bif decide (n<(s.size:Int))then bnd (bnd (JA s n) λc=>bif decide (c>=97)then bif decide (c<=122)then some false else(bif decide (c>=48)then bif decide (c<=57)then some false else(some (!(c==45)))else some (!(c==45)))else bif decide (c>=48)then bif decide (c<=57)then some false else(some (!(c==45)))else some (!(c==45)):Option Bool) λA=>bif A then some (.done (.inl false))else(some (.next (wrap .i64 (n+1))))else some (.done (.inr ())))
   (λi=>(i:Int)) s.size (λi=>!(bP (PG s i)||Gj (PG s i))) (u:=(Sum.inl false:Bool⊕Unit)) (t:=.inr ()) (λi o=>?_) (by simp)
  ·rw[show((0:Nat):Int)=0 from O]at r
   rw[r];simp only[AA]
   have j:qY s=!(List.range s.size).any (λi=>!(bP (PG s i)||Gj (PG s i))):=by
    unfold qY;rw[w,y,d,FK];simp only[GL,List.all_eq_true,JS,KZ,JQ,RV,Bool.not_eq_true,Bool.not_eq_false'];constructor
    ·intro g x p B
     rcases g x p with g|g<;>simp[g]at B
    ·intro g x p
     have:=g x p;cases a:bP (PG s x)
     ·cases b:Gj (PG s x)
      ·simp[a,b]at this
      ·exact .inr O
     ·exact .inl O
   rw[j];cases(List.range s.size).any (λi=>!(bP (PG s i)||Gj (PG s i)))<;>rfl
  ·have C:decide ((i:Int)<(s.size:Int))=true:=by simpa using o
   simp only[C,BD,zPh o,AA,zV o (by omega:s.size<=140737488355328),bP,Gj];cases decide (PG s i>=97)<;>cases decide (PG s i<=122)<;>cases decide (PG s i>=48)<;>cases decide (PG s i<=57)<;>cases(PG s i==45)<;>rfl
def Jz(n:Int):Bool:=decide (0<=n)&&decide (n<=999)
def UZ(v:zS):Bool:=Jz v.CB&&(Jz v.CG&&Jz v.CQ)
def dlt(a b:Int):decide (a<b)=!decide (b<=a):=by
 by_cases h:b<=a
 ·have:¬a<b:=by omega
  simp[h,this]
 ·have:a<b:=by omega
  simp[h,this]
def zQo(v:zS):tN v=some (UZ v):=by unfold tN tC UZ Jz;simp only[AA,gt_iff_lt,dlt];cases decide (0<=v.CB)<;>cases decide (v.CB<=999)<;>cases decide (0<=v.CG)<;>cases decide (v.CG<=999)<;>cases decide (0<=v.CQ)<;>cases decide (v.CQ<=999)<;>rfl
def zUz(v:zS):rT v=some (UZ v):=by unfold rT UZ Jz;simp only[ge_iff_le];cases decide (0<=v.CB)<;>cases decide (v.CB<=999)<;>cases decide (0<=v.CG)<;>cases decide (v.CG<=999)<;>cases decide (0<=v.CQ)<;>cases decide (v.CQ<=999)<;>rfl
def vU(i:zO):Bool:=qY i.Name&&(UZ i.Version&&(decide (1<=i.Data.length)&&decide (i.Data.length<=512)))
def V4(i:zO):qF i=some (vU i):=by
 unfold qF vU;have a:decide ((i.Data.length:Int)>=1)=decide (1<=i.Data.length):=by rw[FK];simp;omega
 have b:decide ((i.Data.length:Int)<=512)=decide (i.Data.length<=512):=by rw[FK];simp;omega
 simp only[zIi,zQo,AA,a,b];cases qY i.Name<;>cases UZ i.Version<;>cases decide (1<=i.Data.length)<;>cases decide (i.Data.length<=512)<;>rfl
def Xl(i:zO):pU i=some (vU i):=by
 unfold pU vU;have a:decide ((i.Data.length:Int)>=1)=decide (1<=i.Data.length):=by rw[FK];simp;omega
 have b:decide ((i.Data.length:Int)<=512)=decide (i.Data.length<=512):=by rw[FK];simp;omega
 simp only[zLr,zUz,AA,a,b];cases qY i.Name<;>cases UZ i.Version<;>cases decide (1<=i.Data.length)<;>cases decide (i.Data.length<=512)<;>rfl
variable{i0:zO}
def jW(h:vU i0=true):qY i0.Name=true/\UZ i0.Version=true/\1<=i0.Data.length/\i0.Data.length<=512:=by simpa[vU]using h
def eK(h:qY i2=true):1<=i2.size/\i2.size<=16:=by simp only[qY,GX,FP]at h;exact h.1
def lF(s:ByteArray):(iB s).length=s.size:=by simp[iB,NV]
def two(n:Int):List Int:=[wrap .u8 (sI .i64 n 8),wrap .u8 n]
def ZP(v:zS):List Int:=two v.CB++(two v.CG++two v.CQ)
def dw(i:zO):List Int:=wrap .u8 (i.Name.size:Int)::(iB i.Name++(ZP i.Version++(two (i.Data.length:Int)++i.Data)))
def kY{a:List Int}(h:X.length+a.length<=140737488355328):app 1 X a=some (X++a):=wF (by omega) (by omega)
def V5{i:zO}(h:i.Name.size<=16/\i.Data.length<=512):(dw i).length<=600:=by simp[dw,ZP,two,lF];omega
def zTt(h:i0.Name.size<=16/\i0.Data.length<=512):mP i0=some (dw i0):=by have a:=lF i0.Name;unfold mP zBR iM mN;rw[kY (by simp)];simp only[AA,JI];rw[kY (by simp[a];omega)];simp only[AA];rw[kY (by simp[a];omega)];simp only[AA];rw[kY (by simp[a];omega)];simp only[AA];rw[kY (by simp[a];omega)];simp only[AA];rw[kY (by simp[a];omega)];simp only[AA];rw[kY (by simp[a];omega)];simp[dw,ZP,two]
def zNS(h:i0.Name.size<=16/\i0.Data.length<=512):rR i0=some (dw i0):=by have a:=lF i0.Name;unfold rR nA tQ nI;rw[kY (by simp[a];omega)];simp only[AA];rw[kY (by simp)];simp only[AA];rw[kY (by simp)];simp only[AA];rw[kY (by simp[a];omega)];simp only[AA];rw[kY (by simp[a];omega)];simp only[AA];rw[kY (by simp[a];omega)];simp[dw,ZP,two]
def WI(i:zO):Int:=bif vU i then wrap .u32 (4294967295-Ry (dw i))else 0
def zRO(i:zO):lR i=some (WI i):=by
 unfold lR WI;rw[V4];cases h:vU i
 ·rfl
 ·obtain⟨b,d,e,c⟩:=jW h
  have a:i.Name.size<=16/\i.Data.length<=512:=⟨(eK b).2,c⟩;have f:=V5 a;simp only[AA,EG,BB,zTt a];rw[zRv _ (by omega)];rfl
def V6(i:zO):lG i=some (WI i):=by
 unfold lG WI;rw[Xl];cases h:vU i
 ·rfl
 ·obtain⟨b,d,e,c⟩:=jW h
  have a:i.Name.size<=16/\i.Data.length<=512:=⟨(eK b).2,c⟩;have f:=V5 a;simp only[AA,EG,BB,zNS a];rw[zOc _ (by omega)];rfl
def zSp(i:zO):bN (WI i):=by
 unfold WI;cases vU i
 ·exact⟨by show(0:Int)<=0;omega,by show(0:Int)<=4294967295;omega⟩
 ·exact zDt _
def Gl(s:yJ):Bool:=vU s.BG&&(s.Sum==WI s.BG)
def qK(s:yJ)(n:ByteArray):Bool:=Gl s&&decide (s.BG.Name=n)
def zSX(s:yJ):P5 s=some (Gl s):=by unfold P5 Gl;simp only[V4,zRO,AA];cases vU s.BG<;>rfl
def zWc(s:yJ):bD s=some (Gl s):=by
 unfold bD Gl;have e:(WI s.BG==s.Sum)=(s.Sum==WI s.BG):=by rw[FK];simp only[KL];exact eq_comm
 simp only[Xl,V6,AA,e];cases vU s.BG<;>rfl
def zLU(d:zA)(s:yJ):jP d s=some (qK s d.Name):=by unfold jP qK;simp only[zSX,AA,gV];cases Gl s<;>rfl
def zLb(s:yJ)(n:ByteArray):oW s n=some (qK s n):=by unfold oW qK;simp only[zWc,AA,gV];cases Gl s<;>rfl
variable{i3:yJ}
def zVR(h:qK i3 i2=true):vU i3.BG=true/\i3.Sum=WI i3.BG/\i3.BG.Name=i2:=by simp only[qK,Gl,GX,KL,FP]at h;exact⟨h.1.1,h.1.2,h.2⟩
def bit(k:Int):Prop:=k=0\/k=1
instance(k:Int):Decidable (bit k):=by unfold bit;infer_instance
def pC(a:sW yJ)(k:Int):yJ:=if k=0 then a.e0 else a.e1
def cN(a:sW yJ)(k:Int)(y:yJ):sW yJ:=if k=0 then⟨y,a.e1⟩else⟨a.e0,y⟩
def zWW:zO:=⟨⟨#[]⟩,⟨0,0,0⟩,[]⟩
def dS:yJ:=⟨zWW,0⟩
def Et:zA:=⟨⟨#[]⟩,⟨dS,dS⟩,0,0,false⟩
def ZQ(a:sW yJ)(h:bit V):CO [a.e0,a.e1] V=some (pC a V):=by rcases h with rfl|rfl<;>rfl
def Rz(a:sW yJ)(y:yJ)(h:bit V):sW.set a V y=some (cN a V y):=by rcases h with rfl|rfl<;>rfl
def Hw(h:bit V):wrap .i64 (1-V)=1-V:=by rcases h with rfl|rfl<;>exact yF (by omega) (by omega)
def uD(h:bit V):bit (1-V):=by rcases h with rfl|rfl<;>simp[bit]
def V7{a:sW yJ}:pC (cN a V i3) V=i3:=by unfold pC cN;by_cases h:V=0<;>simp[h]
theorem zRk{a:sW yJ}(b:bit V)(c:bit i6)(h:i6≠V):pC (cN a V i3) i6=pC a i6:=by rcases b with rfl|rfl<;>rcases c with rfl|rfl<;>simp_all[pC,cN]
def qO(d:zA):Bool:=
 decide (bit d.Active)&&(decide (bit d.Running)&&(qK (pC d.Slots d.Active) d.Name&&(qK (pC d.Slots d.Running) d.Name&&(!d.CX||(decide (d.Running=d.Active)&&qK (pC d.Slots (1-d.Active)) d.Name)))))
def zMT(k:Int):k<0\/bit k\/k>1:=by unfold bit;omega
def fZ(d:zA):pI d=some (qO d):=by
 unfold pI qO rV;simp only[zLU,AA];rcases zMT d.Active with h|h|h
 ·have c:¬bit d.Active:=by unfold bit;omega
  simp[h,c]
 ·have g:decide (d.Active<0)=false:=by rcases h with h|h<;>rw[h]<;>rfl
  have i:decide (d.Active>1)=false:=by rcases h with h|h<;>rw[h]<;>rfl
  simp only[g,i,BB,h,LJ,GL,ZQ _ h,AA];rcases zMT d.Running with k|k|k
  ·have a:¬bit d.Running:=by unfold bit;omega
   simp[k,a]
  ·have a:decide (d.Running<0)=false:=by rcases k with k|k<;>rw[k]<;>rfl
   have f:decide (d.Running>1)=false:=by rcases k with k|k<;>rw[k]<;>rfl
   simp only[a,f,BB,k,LJ,GL,ZQ _ k,AA,Hw k,ZQ _ (uD k)];have e:(d.Running==d.Active)=decide (d.Running=d.Active):=rfl;rw[e];by_cases b:d.Running=d.Active
   ·simp only[b,LJ,BD]
    cases qK (pC d.Slots d.Active) d.Name<;>cases qK (pC d.Slots (1-d.Active)) d.Name<;>cases d.CX<;>rfl
   ·simp only[b,QF,BB]
    cases qK (pC d.Slots d.Active) d.Name<;>cases qK (pC d.Slots d.Running) d.Name<;>cases d.CX<;>rfl
  ·have a:¬bit d.Running:=by unfold bit;omega
   have f:decide (d.Running<0)=false:=by simp;omega
   simp[k,a,f]
 ·have c:¬bit d.Active:=by unfold bit;omega
  have j:decide (d.Active<0)=false:=by simp;omega
  simp[h,c,j]
def zZK(k:Int):bT k=some (decide (bit k)):=by
 unfold bT bit;by_cases a:k=0
 ·subst a;rfl
 ·by_cases b:k=1
  ·subst b;rfl
  ·have c:(k==0)=false:=by simpa using a
   have d:(k==1)=false:=by simpa using b
   simp[c,d,a,b]
def zWu(h:qY i2=false):qK i3 i2=false:=by
 cases a:qK i3 i2
 ·rfl
 ·obtain⟨b,_,c⟩:=zVR a
  have:=(jW b).1;rw[c,h]at this;cases this
def Xm(d:zA):pT d=some (qO d):=by
 unfold pT qO;simp only[zLb,zLr,zZK,AA];cases a:qY d.Name
 ·simp[zWu a]
 by_cases h:bit d.Active
 ·by_cases k:bit d.Running
  ·simp only[h,k,LJ,EG,BB,ZQ _ h,ZQ _ k,AA,Hw h,ZQ _ (uD h),GL]
   have e:(d.Running==d.Active)=decide (d.Running=d.Active):=rfl;rw[e];cases qK (pC d.Slots d.Active) d.Name<;>cases qK (pC d.Slots d.Running) d.Name<;>cases qK (pC d.Slots (1-d.Active)) d.Name<;>cases d.CX<;>cases decide (d.Running=d.Active)<;>rfl
  ·simp[h,k]
 ·simp[h]
structure VD(d:zA):Prop where
 ba:bit d.Active
 br:bit d.Running
 ga:qK (pC d.Slots d.Active) d.Name=true
 gr:qK (pC d.Slots d.Running) d.Name=true
 tr:d.CX=true->d.Running=d.Active/\qK (pC d.Slots (1-d.Active)) d.Name=true
theorem rN(d:zA):qO d=true↔VD d:=by
 unfold qO;simp only[GX,FP,KZ,JQ];constructor
 ·rintro⟨b,c,e,f,a⟩
  exact⟨b,c,e,f,λg=>by rcases a with a|a<;>simp_all⟩
 ·rintro⟨b,c,e,f,a⟩
  refine⟨b,c,e,f,?_⟩;cases g:d.CX
  ·exact .inl O
  ·exact .inr (a g)
def OC(d:zA):Int:=bif qO d then bif(d.Running !=d.Active)then 46 else bif d.CX then 46 else 0 else 1
def V8(d:zA):qT d=some (OC d):=by unfold qT OC;simp only[fZ,AA];cases qO d<;>cases(d.Running !=d.Active)<;>cases d.CX<;>rfl
def V9(d:zA):qU d=some (OC d):=by unfold qU OC;simp only[Xm,AA];cases qO d<;>cases(d.Running !=d.Active)<;>cases d.CX<;>rfl
variable{Z:zA}
def Ko(h:OC Z=0):VD Z/\Z.Running=Z.Active/\Z.CX=false:=by
 unfold OC at h;cases a:qO Z
 ·simp[a]at h
 ·simp only[a,BD]at h
  cases b:(Z.Running !=Z.Active)
  ·simp only[b,BB]at h
   cases c:Z.CX
   ·exact⟨(rN Z).1 a,by simpa using b,O⟩
   ·simp[c]at h
  ·simp[b]at h
def W9(h:VD Z)(a:Z.Running=Z.Active)(b:Z.CX=false):OC Z=0:=by unfold OC;rw[(rN Z).2 h,a,b];simp
def small(i:zO):Prop:=i.Data.length<=1000
def vQ(d:zA):Prop:=small d.Slots.e0.BG/\small d.Slots.e1.BG
def zTs(h:vQ Z)(hy:small i3.BG):small (cN Z.Slots V i3).e0.BG/\small (cN Z.Slots V i3).e1.BG:=by
 unfold cN;split
 ·exact⟨hy,h.2⟩
 ·exact⟨h.1,hy⟩
def zFY(h:small i0):lP i0=some i0:=by unfold lP yG;unfold small at h;rw[kY (by simp;omega)];rfl
def zII(h:small i0):kH i0=some i0:=by unfold kH;unfold small at h;rw[kY (by simp;omega)];rfl
def eH(h:vQ Z):rS Z=some Z:=by unfold rS;rw[zFY h.1];simp only[AA];rw[zFY h.2];rfl
def Oo(h:vQ Z):sQ Z=some Z:=by unfold sQ;rw[zII h.1];simp only[AA];rw[zII h.2];rfl
def Oq(d:zA):zA×Int:=bif(OC d !=0)then(Et,OC d)else(⟨d.Name,cN d.Slots (1-d.Running) dS,d.Active,d.Running,d.CX⟩,0)
def dK(d:zA)(i:zO)(n:Int):Bool:=vU i&&(decide (i.Name=d.Name)&&(decide (0<=n)&&decide (n<=(i.Data.length:Int))))
def Ot(d:zA)(i:zO)(n:Int):zA×Int:=
 bif(OC d !=0)then(Et,OC d)else bif dK d i n then(⟨d.Name,cN d.Slots (1-d.Running) ⟨⟨i.Name,i.Version,i.Data.take n.toNat⟩,0⟩,d.Active,d.Running,d.CX⟩,0)else(Et,2)
def Ou(d:zA)(s:Int):zA×Int:=
 bif(OC d !=0)then(Et,OC d)else bif qK ⟨(pC d.Slots (1-d.Running)).BG,s⟩ d.Name then(⟨d.Name,cN d.Slots (1-d.Running) ⟨(pC d.Slots (1-d.Running)).BG,s⟩,d.Active,d.Running,d.CX⟩,0)else(Et,5)
def Sj(d:zA):zA×Int:=
 bif(OC d !=0)then(Et,OC d)else bif qK (pC d.Slots (1-d.Running)) d.Name then(⟨d.Name,d.Slots,d.Active,d.Running,true⟩,0)else(Et,46)
def dL(d:zA):zA:=bif qO d then bif d.CX then⟨d.Name,d.Slots,d.Active,1-d.Active,false⟩else⟨d.Name,d.Slots,d.Active,d.Active,d.CX⟩else Et
def Sm(d:zA):zA×Int:=bif qO d then bif d.CX then(Et,46)else(⟨d.Name,d.Slots,d.Running,d.Running,d.CX⟩,0)else(Et,1)
def qW(d:zA):zS:=bif qO d then(pC d.Slots d.Running).BG.Version else⟨0,0,0⟩
def Hy(i:zO):zA×Int:=bif vU i then(⟨i.Name,⟨⟨i,WI i⟩,dS⟩,0,0,false⟩,0)else(Et,1)
def zZO(h:small i0):Q8 i0=some (Hy i0):=by unfold Q8 Hy;simp only[Xl,zII h,V6,AA];cases vU i0<;>rfl
def Xn{d:zA}(h:bit d.Running):rV d=some (1-d.Running):=by unfold rV;rw[Hw h,ZQ _ (uD h)];rfl
def zSN(h:vQ Z):P7 Z=some (Oq Z):=by
 unfold P7 Oq;simp only[V8,eH h,AA];by_cases a:OC Z=0
 ·obtain⟨b,c,d⟩:=Ko a
  have e:(OC Z !=0)=false:=by simp[a]
  simp only[e,BB,Xn b.br,AA,ZQ _ (uD b.br),Rz _ _ (uD b.br)];rfl
 ·have e:(OC Z !=0)=true:=by simp[a]
  simp only[e,BD];rfl
def zWm(h:vQ Z):gU Z=some (Oq Z):=by
 unfold gU Oq;simp only[V9,Oo h,AA];by_cases a:OC Z=0
 ·obtain⟨b,c,d⟩:=Ko a
  have e:(OC Z !=0)=false:=by simp[a]
  simp only[e,BB,AA,Hw b.br,ZQ _ (uD b.br),Rz _ _ (uD b.br)];rfl
 ·have e:(OC Z !=0)=true:=by simp[a]
  simp only[e,BD];rfl
def zRl{l:List i5}(a:0<=V)(b:V<=(l.length:Int)):sub l 0 V=some (l.take V.toNat):=by simp[sub,a,b]
def zSA(h:vQ Z)(g:small i0)(n:Int):P8 Z i0 n=some (Ot Z i0 n):=by
 unfold P8 Ot;simp only[V8,V4,gV,AA];by_cases a:OC Z=0
 ·obtain⟨b,i,j⟩:=Ko a
  have e:(OC Z !=0)=false:=by simp[a]
  simp only[e,BB,gt_iff_lt,dlt]
  have d:(bif !vU i0 then some true else bif !decide (i0.Name=Z.Name)then some true else bif !decide (0<=n)then some true else some (!decide (n<=(i0.Data.length:Int))):Option Bool)=some (!dK Z i0 n):=by unfold dK;cases vU i0<;>cases decide (i0.Name=Z.Name)<;>cases decide (0<=n)<;>cases decide (n<=(i0.Data.length:Int))<;>rfl
  rw[d];simp only[AA];cases c:dK Z i0 n
  ·rfl
  ·simp only[dK,GX,FP]at c
   have f:small (⟨i0.Name,i0.Version,i0.Data.take n.toNat⟩:zO):=by unfold small at*;simp;omega
   simp only[EG,BB,BD,eH h,AA,zRl c.2.2.1 c.2.2.2,Xn b.br,zFY f,ZQ _ (uD b.br),Rz _ _ (uD b.br)]
 ·have e:(OC Z !=0)=true:=by simp[a]
  simp only[e,BD];rfl
def zVJ(h:vQ Z)(d:small i0)(n:Int):gG Z i0 n=some (Ot Z i0 n):=by
 unfold gG Ot;simp only[V9,Xl,gV,AA];by_cases a:OC Z=0
 ·obtain⟨b,i,j⟩:=Ko a
  have e:(OC Z !=0)=false:=by simp[a]
  simp only[e,BB,gt_iff_lt,dlt]
  have f:(bif !vU i0 then some true else bif !decide (i0.Name=Z.Name)then some true else bif !decide (0<=n)then some true else some (!decide (n<=(i0.Data.length:Int))):Option Bool)=some (!dK Z i0 n):=by unfold dK;cases vU i0<;>cases decide (i0.Name=Z.Name)<;>cases decide (0<=n)<;>cases decide (n<=(i0.Data.length:Int))<;>rfl
  rw[f];simp only[AA];cases c:dK Z i0 n
  ·rfl
  ·simp only[dK,GX,FP]at c
   have g:app 1 ([]:List Int) (i0.Data.take n.toNat)=some (i0.Data.take n.toNat):=by unfold small at d;rw[kY (by simp;omega)];rfl
   simp only[EG,BB,BD,Oo h,AA,zRl c.2.2.1 c.2.2.2,g,Hw b.br,ZQ _ (uD b.br),Rz _ _ (uD b.br)]
 ·have e:(OC Z !=0)=true:=by simp[a]
  simp only[e,BD];rfl
def zQu(h:vQ Z)(s:Int):bG Z s=some (Ou Z s):=by
 unfold bG Ou;simp only[V8,eH h,AA];by_cases b:OC Z=0
 ·obtain⟨a,c,f⟩:=Ko b
  have e:(OC Z !=0)=false:=by simp[b]
  simp only[e,BB,Xn a.br,AA,ZQ _ (uD a.br),Rz _ _ (uD a.br),zLU];rw[Xn (d:=⟨Z.Name,cN Z.Slots (1-Z.Running) ⟨(pC Z.Slots (1-Z.Running)).BG,s⟩,Z.Active,Z.Running,Z.CX⟩) a.br];simp only[AA,ZQ _ (uD a.br),V7];cases qK ⟨(pC Z.Slots (1-Z.Running)).BG,s⟩ Z.Name<;>rfl
 ·have e:(OC Z !=0)=true:=by simp[b]
  simp only[e,BD];rfl
def zTf(h:vQ Z)(s:Int):jO Z s=some (Ou Z s):=by
 unfold jO Ou;simp only[V9,Oo h,AA];by_cases a:OC Z=0
 ·obtain⟨b,c,d⟩:=Ko a
  have e:(OC Z !=0)=false:=by simp[a]
  simp only[e,BB,AA,Hw b.br,ZQ _ (uD b.br),Rz _ _ (uD b.br),zLb,V7];cases qK ⟨(pC Z.Slots (1-Z.Running)).BG,s⟩ Z.Name<;>rfl
 ·have e:(OC Z !=0)=true:=by simp[a]
  simp only[e,BD];rfl
def zEp(h:vQ Z):gB Z=some (Sj Z):=by
 unfold gB Sj;simp only[V8,eH h,AA];by_cases a:OC Z=0
 ·obtain⟨b,c,d⟩:=Ko a
  have e:(OC Z !=0)=false:=by simp[a]
  simp only[e,BB,Xn b.br,AA,ZQ _ (uD b.br),zLU];cases qK (pC Z.Slots (1-Z.Running)) Z.Name<;>rfl
 ·have e:(OC Z !=0)=true:=by simp[a]
  simp only[e,BD];rfl
def zTv(h:vQ Z):dD Z=some (Sj Z):=by
 unfold dD Sj;simp only[V9,Oo h,AA];by_cases a:OC Z=0
 ·obtain⟨b,c,d⟩:=Ko a
  have e:(OC Z !=0)=false:=by simp[a]
  simp only[e,BB,AA,Hw b.ba,ZQ _ (uD b.ba),zLb,c];cases qK (pC Z.Slots (1-Z.Active)) Z.Name<;>rfl
 ·have e:(OC Z !=0)=true:=by simp[a]
  simp only[e,BD];rfl
def Sr{d:zA}(h:vQ d):fV d=some (dL d):=by
 unfold fV dL;simp only[fZ,eH h,AA];cases a:qO d
 ·rfl
 ·have:=((rN d).1 a).ba
  simp only[Hw this,EG,BB,BD];cases d.CX<;>rfl
def zLq{d:zA}(h:vQ d):lS d=some (dL d):=by
 unfold lS dL;simp only[Xm,Oo h,AA];cases a:qO d
 ·rfl
 ·have:=((rN d).1 a).ba
  simp only[Hw this,EG,BB,BD];cases d.CX<;>rfl
def zHd{d:zA}(h:vQ d):jI d=some (Sm d):=by unfold jI Sm;simp only[fZ,eH h,AA];cases qO d<;>cases d.CX<;>rfl
def zSb{d:zA}(h:vQ d):gW d=some (Sm d):=by unfold gW Sm;simp only[Xm,Oo h,AA];cases qO d<;>cases d.CX<;>rfl
def zHS(d:zA):dI d=some (qW d):=by
 unfold dI qW;simp only[fZ,AA];cases a:qO d
 ·rfl
 ·simp only[EG,BB,BD,ZQ _ ((rN d).1 a).br,AA]
def zLd(i:zO):nE i i=some true:=by unfold nE;simp
def zUR(d:zA):U4 d d=some true:=by unfold U4;simp[zLd]
def zTg:Di .u8 V↔0<=V/\V<=255:=Iff.rfl
structure vB(c:xT):Prop where
 hl:∀x∈c.L,Di .u8 x
 h0:0<=c.At
 hn:c.L.length<=140737488355328
 ha:c.At<=(c.L.length:Int)
def zVC{a b:Int}(c:0<=a/\a<65536)(d:0<=b/\b<65536):0<=GR .i64 a b/\GR .i64 a b<65536:=by
 unfold GR
 have e:(BitVec.ofInt (IntKind.bits .i64) a|||BitVec.ofInt (IntKind.bits .i64) b).toNat=a.toNat|||b.toNat:=by show(BitVec.ofInt 64 a|||BitVec.ofInt 64 b).toNat=_;rw[YF,TW,TW];congr 1<;>omega
 rw[e];have h:=QA (x:=a.toNat) (y:=b.toNat) (n:=16) (by omega) (by omega);rw[yF (by omega) (by omega)];omega
def yCn(h:0<=V/\V<=255):cB .i64 V 8=V*256:=by
 unfold cB;have:(2:Int)^(min (Int.toNat 8) (IntKind.bits .i64))=256:=by decide
 rw[this,yF (by omega) (by omega)]
def zUh{n:Int}(a:0<=V)(b:1<=n):∃x,Qr V n=some x/\0<=x/\x<n:=by refine⟨V%n,?_,Int.emod_nonneg _ (by omega),Int.emod_lt_of_pos _ (by omega)⟩;unfold Qr;rw[AP (by omega),qj a]
def zZt{c:xT}(h:vB c)(n:Int):∃y x,yH c n=some (y,x)/\vB y/\0<=x/\(x=0\/x<n):=by
 unfold yH uH;simp only[AA];obtain⟨f,z,i,A⟩:=h;by_cases j:c.At<(c.L.length:Int)
 ·have p:decide (c.At<(c.L.length:Int))=true:=by simpa using j
  simp only[p,EG,BB,AA];by_cases l:n<1
  ·simp only[l,LJ,BD]
   exact⟨c,0,O,⟨f,z,i,A⟩,by omega,.inl O⟩
  simp only[l,QF,BB];obtain⟨k,B⟩:∃k:Nat,c.At=(k:Int):=⟨c.At.toNat,by omega⟩;have e:k<c.L.length:=by omega
  have C:=zTg.1 (f _ (DJ e));rw[B,yN e];simp only[AA];have D:wrap .i64 ((k:Int)+1)=((k+1:Nat):Int):=zV e i;have q:wrap .i64 c.L[k]=c.L[k]:=yF (by omega) (by omega);rw[D,q];have m:vB (⟨c.L,((k+1:Nat):Int)⟩:xT):=⟨f,by show(0:Int)<=((k+1:Nat):Int);omega,i,by show((k+1:Nat):Int)<=(c.L.length:Int);omega⟩;by_cases d:n>256/\k+1<c.L.length
  ·have r:decide (n>256)=true:=by simpa using d.1
   have s:decide (((k+1:Nat):Int)<(c.L.length:Int))=true:=by simp;omega
   have hy:=zTg.1 (f _ (DJ d.2));have t:wrap .i64 c.L[k+1]=c.L[k+1]:=yF (by omega) (by omega);simp only[r,s,BD,AA,yN d.2,t,yCn hy];have E:=zVC (a:=c.L[k]) (b:=c.L[k+1]*256) (by omega) (by omega);obtain⟨x,u,v,w⟩:=zUh (n:=n) E.1 (by omega);rw[u];have o:wrap .i64 (((k+1:Nat):Int)+1)=((k+2:Nat):Int):=zV d.2 i;exact⟨_,x,O,⟨f,by show 0<=wrap .i64 _;rw[o];omega,i,by show wrap .i64 _<=(c.L.length:Int);rw[o];omega⟩,v,.inr w⟩
  ·have r:(bif decide (n>256)then some (decide (((k+1:Nat):Int)<(c.L.length:Int)))else some false:Option Bool)=some false:=by
    by_cases g:n>256
    ·have:¬k+1<c.L.length:=λh=>d ⟨g,h⟩
     have s:decide (((k+1:Nat):Int)<(c.L.length:Int))=false:=by simp;omega
     rw[s];simp[g]
    ·simp[g]
   rw[r];simp only[AA,BB];obtain⟨x,u,v,w⟩:=zUh (n:=n) C.1 (by omega);rw[u];exact⟨_,x,O,m,v,.inr w⟩
 ·have p:decide (c.At<(c.L.length:Int))=false:=by simpa using j
  simp only[p,IK,BD,AA];exact⟨c,0,O,⟨f,z,i,A⟩,by omega,.inl O⟩
def zWj(h:Ji (Di .u8) X){most:Int}(d:0<=most)(e:most<=100000):∃c,P9 X most=some c/\vB c:=by
 unfold P9
 have a:sub X 0 (min (X.length:Int) most)=some (X.take (min (X.length:Int) most).toNat):=by unfold sub;rw[AQ ⟨by omega,by omega,by omega⟩];simp
 rw[a];refine⟨_,O,λx b=>h.1 x (OE b),by simp,?_,by simp⟩;simp only[DV];omega
structure Inv(d:zA)(n:ByteArray):Prop where
 vd:VD d
 nm:d.Name=n
 sm:vQ d
def zPi{n:ByteArray}(h:Inv Z n)(d:Z.Running=Z.Active)(f:Z.CX=false){y:yJ}(hy:small y.BG):Inv ⟨Z.Name,cN Z.Slots (1-Z.Running) y,Z.Active,Z.Running,Z.CX⟩ n:=by
 obtain⟨⟨g,a,j,c,k⟩,nm,i⟩:=h;have b:Z.Running≠1-Z.Running:=by rcases a with h|h<;>rw[h]<;>decide
 have e:pC (cN Z.Slots (1-Z.Running) y) Z.Running=pC Z.Slots Z.Running:=zRk (uD a) a b;refine⟨⟨g,a,?_,?_,λh=>?_⟩,nm,zTs i hy⟩
 ·simp only;rw[<-d,e];exact c
 ·simp only;rw[e];exact c
 ·rw[f]at h;cases h
def zLs:small zWW:=by unfold small zWW;simp
def yAe(h:vU i0=true):Inv (Hy i0).1 i0.Name/\(Hy i0).2=0/\(Hy i0).1=⟨i0.Name,⟨⟨i0,WI i0⟩,dS⟩,0,0,false⟩:=by
 unfold Hy;rw[h];have b:=jW h;have a:qK ⟨i0,WI i0⟩ i0.Name=true:=by simp[qK,Gl,h]
 refine⟨⟨⟨.inl O,.inl O,a,a,λh=>by cases h⟩,rfl,?_,zLs⟩,rfl,rfl⟩;show i0.Data.length<=1000;omega
def zYS{v:zS}(a:0<=v.CB)(b:v.CB<=999)(c:0<=v.CG)(d:v.CG<=999)(e:0<=v.CQ)(f:v.CQ<=999):UZ v=true:=by simp[UZ,Jz, *]
def zYz(a:qY i0.Name=true)(b:UZ i0.Version=true)(c:1<=i0.Data.length)(d:i0.Data.length<=512):vU i0=true:=by simp[vU, *]
def zGS:∀(x y:List UInt8),(Op.bytesLess x y||(x==y))=!Op.bytesLess y x
 |[],[]=>rfl|[],_::_=>rfl|_::_,[]=>rfl|a::x,b::y=>by
  have d:=zGS x y;simp only[Op.bytesLess,List.cons_beq_cons];by_cases h:a=b
  ·subst h
   have:¬a<a:=UInt8.lt_irrefl a;simp[this];simpa using d
  ·have f:(a==b)=false:=by simpa using h
   have i:(b==a)=false:=by simpa usingλe=>h e.symm
   rw[f,i];simp only[Bool.false_and,UN];by_cases c:a<b
   ·have:¬b<a:=UInt8.lt_asymm c
    simp[c,this]
   ·have:b<a:=by
     rcases ul h with g|g
     ·exact absurd g c
     ·exact g
    simp[c,this]
def jc(x:Nat):Bool:=decide (97<=x)&&decide (x<=122)
def Bv(x:Nat):Bool:=(decide (48<=x)&&decide (x<=57))||x==45
def pY(s:ByteArray):Bool:=decide (1<=(bs s).length)&&decide ((bs s).length<=16)&&(List.range (bs s).length).all λi=>match(bs s)[i]?with|some x=>jc x||(i !=0&&Bv x)|none=>true
def lu(v:zS):Bool:=decide (0<=v.CB)&&decide (v.CB<=999)&&(decide (0<=v.CG)&&decide (v.CG<=999))&&(decide (0<=v.CQ)&&decide (v.CQ<=999))
def eG(l:List i5)(p:i5->Bool):(l.any λx=>!p x)=!l.all p:=by
 induction l with
 |nil=>rfl|cons x r a=>simp[a,Bool.not_and]
def zOW(s:ByteArray):sO s=some (pY s):=by
 unfold sO;have a:(bs s).length=s.size:=bs_len s;by_cases h:(s.size<1)\/(16<s.size)
 ·have e:(bif decide ((s.size:Int)<1)then some true else some (decide ((s.size:Int)>16)):Option Bool)=some true:=by
   by_cases c:s.size<1
   ·have:decide ((s.size:Int)<1)=true:=by simp;omega
    rw[this];rfl
   ·have:decide ((s.size:Int)<1)=false:=by simp;omega
    rw[this];simp;omega
  rw[e]
  have:pY s=false:=by
   unfold pY;rw[a];rcases h with h|h
   ·have:decide (1<=s.size)=false:=BV (by omega)
    rw[this];rfl
   ·have:decide (s.size<=16)=false:=BV (by omega)
    rw[this];simp
  rw[this];rfl
 ·have c:decide ((s.size:Int)<1)=false:=by simp;omega
  have f:decide ((s.size:Int)>16)=false:=by simp;omega
  simp only[c,f,BB,AA];refine uA (λ(i:Nat)=>(i:Int)) s.size (λi=>match(bs s)[i]?with|some x=>!(jc x||(i !=0&&Bv x))|none=>false) (.inl false) (.inr ()) O (λi d=>?_) ?_ ?_
  ·have b:i<(bs s).length:=by omega
   have d0:decide ((i:Int)<(s.size:Int))=true:=by simp;omega
   simp only[d0,BD,zOj d,AA,zV d (by omega)];rw[CJ b];generalize (bs s)[i]=x;have g:decide ((x:Int)>=97)=decide (97<=x):=by congr 1;simp;omega
   have j:decide ((x:Int)<=122)=decide (x<=122):=by congr 1;simp;omega
   have k:decide ((x:Int)>=48)=decide (48<=x):=by congr 1;simp;omega
   have l:decide ((x:Int)<=57)=decide (x<=57):=by congr 1;simp;omega
   have m:((x:Int)==45)=(x==45):=by rw[FK,KL,KL];omega
   have a6:((i:Int)==0)=(i==0):=by rw[FK];simp
   rw[g,j,k,l,m,a6];simp only[jc,Bv,bne];cases decide (97<=x)<;>cases decide (x<=122)<;>cases decide (48<=x)<;>cases decide (x<=57)<;>cases x==45<;>cases i==0<;>rfl
  ·have d0:decide ((s.size:Int)<(s.size:Int))=false:=by simp
   simp only[d0,BB]
  ·have n:(List.range s.size).any (λi=>match(bs s)[i]?with|some x=>!(jc x||(i !=0&&Bv x))|none=>false)=!((List.range (bs s).length).all λi=>match(bs s)[i]?with|some x=>jc x||(i !=0&&Bv x)|none=>true):=by rw[<-eG,a];congr 1;funext i;cases(bs s)[i]?<;>rfl
   rw[n];unfold pY;have b1:decide (1<=(bs s).length)=true:=by rw[a];simp;omega
   have b2:decide ((bs s).length<=16)=true:=by rw[a];simp;omega
   rw[b1,b2];cases(List.range (bs s).length).all λi=>match(bs s)[i]?with|some x=>jc x||(i !=0&&Bv x)|none=>true<;>rfl
def zXs(v:zS):tN v=some (lu v):=by
 unfold tN tC lu;simp only[AA];have a:∀x:Int,decide (x<0)=!decide (0<=x):=λx=>by rw[<-MJ];congr 1;simp
 have b:∀x:Int,decide (x>999)=!decide (x<=999):=λx=>by rw[<-MJ];congr 1;simp
 simp only[a,b];cases decide (0<=v.CB)<;>cases decide (v.CB<=999)<;>cases decide (0<=v.CG)<;>cases decide (v.CG<=999)<;>cases decide (0<=v.CQ)<;>cases decide (v.CQ<=999)<;>rfl
def blt(a b:ByteArray):Bool:=Op.bytesLess a.data.toList b.data.toList
def blt_eq(a b:ByteArray):Op.bytesLess a.toList b.toList=blt a b:=by rw[NV,NV];rfl
def Hz(l:List zR)(i:Nat):Bool:=match l[i]?with
 |some x=>pY x.Name&&lu x.Version&&(i==0||match l[i-1]?with|some y=>blt y.Name x.Name|none=>true)
 |none=>true
def rB(l:List zR):Bool:=decide (l.length<=8)&&(List.range l.length).all (Hz l)
def zXm(l:List zR):sA l=some (rB l):=by
 unfold sA rB;by_cases h:8<l.length
 ·have b:decide ((l.length:Int)>8)=true:=by simp;omega
  have c:decide (l.length<=8)=false:=by simp;omega
  rw[b,c];rfl
 ·have b:decide ((l.length:Int)>8)=false:=by simp;omega
  have c:decide (l.length<=8)=true:=by simp;omega
  rw[b,c];simp only[BB,GL];refine uA (λ(i:Nat)=>(i:Int)) l.length (λi=>!Hz l i) (.inl false) (.inr ()) O (λi a=>?_) ?_ ?_
  ·have d0:decide ((i:Int)<(l.length:Int))=true:=by simp;omega
   simp only[d0,BD,yN a,AA,zOW,zXs,zV a (by omega),Hz,CJ a];by_cases d:i=0
   ·subst d
    have e:decide (((0:Nat):Int)>0)=false:=by simp
    rw[e];cases pY l[0].Name<;>cases lu l[0].Version<;>rfl
   ·have e:decide ((i:Int)>0)=true:=by simp;omega
    have f:(i==0)=false:=by simp[d]
    have hp:i-1<l.length:=by omega
    rw[e,f,Ws (n:=l.length) (by omega) a (by omega),yN hp,CJ hp];simp only[AA,zGS,QD,BD];simp only[blt_eq];cases pY l[i].Name<;>cases lu l[i].Version<;>cases blt l[i-1].Name l[i].Name<;>rfl
  ·have d0:decide ((l.length:Int)<(l.length:Int))=false:=by simp
   simp only[d0,BB]
  ·rw[eG]
   cases(List.range l.length).all (Hz l)<;>rfl
def Ia(x:zY):Bool:=pY x.DX&&pY x.On&&!decide (bs x.DX=bs x.On)&&lu x.From&&lu x.At
def kQ(l:List zY):Bool:=decide (l.length<=16)&&l.all Ia
def zXa(l:List zY):oS l=some (kQ l):=by
 unfold oS kQ;by_cases h:16<l.length
 ·have b:decide ((l.length:Int)>16)=true:=by simp;omega
  have c:decide (l.length<=16)=false:=by simp;omega
  rw[b,c];rfl
 ·have b:decide ((l.length:Int)>16)=false:=by simp;omega
  have c:decide (l.length<=16)=true:=by simp;omega
  rw[b,c];simp only[BB,GL];refine uA (λ(i:Nat)=>(i:Int)) l.length (λi=>match l[i]?with|some x=>!Ia x|none=>false) (.inl false) (.inr ()) O (λi a=>?_) ?_ ?_
  ·have d0:decide ((i:Int)<(l.length:Int))=true:=by simp;omega
   simp only[d0,BD,yN a,AA,zOW,zXs,zV a (by omega),CJ a,dT,Ia];generalize l[i]=x;cases pY x.DX<;>cases pY x.On<;>cases decide (bs x.DX=bs x.On)<;>cases lu x.From<;>cases lu x.At<;>rfl
  ·have d0:decide ((l.length:Int)<(l.length:Int))=false:=by simp
   simp only[d0,BB]
  ·rw[Wv l (λx=>!Ia x) _ (λi a=>by rw[CJ a]),eG]
   cases l.all Ia<;>rfl
def cU(l:List zR)(name:ByteArray):Option zS:=(l.find? λx=>decide (bs x.Name=bs name)).map (·.Version)
def Ib(a b:zS):Bool:=decide (a.CB<b.CB)||(decide (a.CB=b.CB)&&(decide (a.CG<b.CG)||(decide (a.CG=b.CG)&&decide (a.CQ<b.CQ))))
def jU(l:List zR)(n:zY):Bool:=match cU l n.DX with
 |none=>true|some v=>Ib v n.From||match cU l n.On with|none=>false|some u=>!Ib u n.At
def zGi{l:List zR}(e:l.length<=1000)(name:ByteArray):mO l name=some (match cU l name with|some v=>(v,true)|none=>(⟨0,0,0⟩,false)):=by
 unfold mO;refine rW (λ(i:Nat)=>(i:Int)) l.length (λi=>match l[i]?with|some x=>if decide (bs x.Name=bs name)=true then some (.inl (x.Version,true))else none|none=>none) (.inr ()) O (λi a=>?_) ?_ ?_
 ·have d0:decide ((i:Int)<(l.length:Int))=true:=by simp;omega
  simp only[d0,BD,yN a,AA,zV a (by omega),CJ a,dT];cases decide (bs l[i].Name=bs name)<;>rfl
 ·have d0:decide ((l.length:Int)<(l.length:Int))=false:=by simp
  simp only[d0,BB]
 ·rcases O1 l (λx=>decide (bs x.Name=bs name)) (λ_ x=>(.inl (x.Version,true):(zS×Bool)⊕Unit)) (λi=>match l[i]?with|some x=>if decide (bs x.Name=bs name)=true then some (.inl (x.Version,true))else none|none=>none) (λi a=>by rw[CJ a])with⟨i,a,c,d,b⟩|⟨c,d,b⟩
  ·rw[b]
   simp only[cU,d];rfl
  ·rw[b]
   simp only[cU,c];rfl
def yBu(x y:Int):qJ x y=some (if x<y then-1 else if y<x then 1 else 0):=by
 unfold qJ kC;simp only[AA,JR,BB];by_cases a:x<y
 ·simp[a]
 ·by_cases b:y<x
  ·simp[a,b]
  ·simp[a,b]
def zKP(a b:zS):∃r,nK a b=some r/\decide (r<0)=Ib a b:=by
 unfold nK tC kO Ib;simp only[AA,yBu];by_cases c:a.CB<b.CB
 ·exact⟨-1,by simp[c],by simp[c]⟩
 ·by_cases f:b.CB<a.CB
  ·have:¬a.CB=b.CB:=by omega
   exact⟨1,by simp[c,f],by simp[c,this]⟩
  ·have e:a.CB=b.CB:=by omega
   by_cases d:a.CG<b.CG
   ·exact⟨-1,by simp[c,f,d],by simp[e,d]⟩
   ·by_cases h:b.CG<a.CG
    ·have:¬a.CG=b.CG:=by omega
     exact⟨1,by simp[c,f,d,h],by simp[e,d,this]⟩
    ·have i:a.CG=b.CG:=by omega
     by_cases g:a.CQ<b.CQ
     ·exact⟨-1,by simp[c,f,d,h,g],by simp[e,i,g]⟩
     ·by_cases j:b.CQ<a.CQ
      ·exact⟨1,by simp[c,f,d,h,g,j],by simp[e,i,g]⟩
      ·exact⟨0,by simp[c,f,d,h,g,j],by simp[e,i,g]⟩
def zXl{l:List zR}(a:l.length<=1000)(n:zY):kD l n=some (jU l n):=by
 unfold kD jU;rw[zGi a,zGi a];cases f:cU l n.DX with
 |none=>rfl|some v=>
  obtain⟨r,b,c⟩:=zKP v n.From;simp only[AA,EG,BB,b,c];cases g:Ib v n.From
  ·simp only[BB,QD]
   cases h:cU l n.On with
   |none=>rfl|some u=>
    obtain⟨d,e,e4⟩:=zKP u n.At;simp only[AA,BD,e];have:decide (d>=0)=!Ib u n.At:=by rw[<-e4,<-MJ];congr 1;simp
    rw[this]
  ·rfl
def X0(l:List zR)(a:List zY)(r:Int×Int):Prop:=
 if rB l=false then r=(0,1)else if kQ a=false then r=(0,2)else r.2=0/\decide (r.1<0)=a.all (jU l)
def Sv(l:List zR)(a:List zY):∃r,wV l a=some r/\X0 l a r:=by
 unfold wV X0;rw[zXm,zXa];cases e:rB l
 ·exact⟨(0,1),O,by simp⟩
 simp only[AA,EG,BB,NW,EI];cases f:kQ a
 ·exact⟨(0,2),O,by simp⟩
 simp only[AA,EG,BB,NW,EI]
 have k:l.length<=8:=by unfold rB at e;have:=(JV.1 e).1;simpa using this
 have m:a.length<=16:=by unfold kQ at f;have:=(JV.1 f).1;simpa using this
 rcases O1 a (λx=>!jU l x) (λi _=>(.inl ((i:Int),0):(Int×Int)⊕Unit)) (λi=>match a[i]?with|some x=>if(!jU l x)=true then some (.inl ((i:Int),0))else none|none=>none) (λi b=>by rw[CJ b])with⟨i,b,c,g,d⟩|⟨c,g,d⟩
 ·refine⟨((i:Int),0),?_,O,?_⟩
  ·refine rW (λ(i:Nat)=>(i:Int)) a.length (λi=>match a[i]?with|some x=>if(!jU l x)=true then some (.inl ((i:Int),0))else none|none=>none) (.inr ()) O (λi b=>?_) ?_ ?_
   ·have d0:decide ((i:Int)<(a.length:Int))=true:=by simp;omega
    simp only[d0,BD,yN b,AA,zV b (by omega),CJ b,zXl (l:=l) (by omega)];cases jU l a[i]<;>rfl
   ·have d0:decide ((a.length:Int)<(a.length:Int))=false:=by simp
    simp only[d0,BB]
   ·rw[d];rfl
  ·have:a.all (jU l)=false:=by
    cases h:a.all (jU l)
    ·rfl
    ·have:=List.all_eq_true.1 h _ (DJ b)
     rw[this]at c;cases c
   rw[this];simp
 ·refine⟨(-1,0),?_,O,?_⟩
  ·refine rW (λ(i:Nat)=>(i:Int)) a.length (λi=>match a[i]?with|some x=>if(!jU l x)=true then some (.inl ((i:Int),0))else none|none=>none) (.inr ()) O (λi b=>?_) ?_ ?_
   ·have d0:decide ((i:Int)<(a.length:Int))=true:=by simp;omega
    simp only[d0,BD,yN b,AA,zV b (by omega),CJ b,zXl (l:=l) (by omega)];cases jU l a[i]<;>rfl
   ·have d0:decide ((a.length:Int)<(a.length:Int))=false:=by simp
    simp only[d0,BB]
   ·rw[d];rfl
  ·have:a.all (jU l)=true:=List.all_eq_true.2 λx j=>by simpa using g x j
   rw[this];rfl
def wQ(l:List zR):List (List Nat):=l.map λx=>bs x.Name
def uY(p:xH):Nat:=
 if(rB p.Now&&rB p.Next)=false then 1 else if kQ p.Needs=false then 2 else if wQ p.Now≠wQ p.Next then 8 else
  if(p.Needs.all (jU p.Now)&&p.Needs.all (jU p.Next))=false then 42 else 0
def zQd:rB []=true:=rfl
def zQw:kQ []=true:=rfl
def X3{l:List zR}(h:rB l=true):l.length<=8:=by unfold rB at h;have:=(JV.1 h).1;simpa using this
def zJj{l:List zY}(h:kQ l=true):l.length<=16:=by unfold kQ at h;have:=(JV.1 h).1;simpa using this
def zRa{a b:List zR}(m:a.length<=1000):yY a b=some (decide (wQ a=wQ b)):=by
 unfold yY;by_cases j:a.length=b.length
 ·have f:((a.length:Int) !=(b.length:Int))=false:=by simp[j]
  rw[f];simp only[BB];refine uA (λ(i:Nat)=>(i:Int)) a.length (λi=>match a[i]?,b[i]?with|some x,some y=>!decide (bs x.Name=bs y.Name)|_,_=>false) (.inl false) (.inr ()) O (λi c=>?_) ?_ ?_
  ·have d0:decide ((i:Int)<(a.length:Int))=true:=by simp;omega
   have d:i<b.length:=by omega
   simp only[d0,BD,yN c,yN d,AA,zV c (by omega),CJ c,CJ d,nC,dT];cases decide (bs a[i].Name=bs b[i].Name)<;>rfl
  ·have d0:decide ((a.length:Int)<(a.length:Int))=false:=by simp
   simp only[d0,BB]
  ·have:(List.range a.length).any (λi=>match a[i]?,b[i]?with|some x,some y=>!decide (bs x.Name=bs y.Name)|_,_=>false)=!decide (wQ a=wQ b):=by
    rw[FK];simp only[JH,JS,JQ,JO];constructor
    ·rintro⟨i,c,h⟩ k
     have d:i<b.length:=by omega
     rw[CJ c,CJ d]at h;simp only[JQ,JO]at h;apply h;have:(wQ a)[i]?=(wQ b)[i]?:=by rw[k]
     simpa[wQ,c,d]using this
    ·intro h
     refine PS λl=>h ?_
     apply FW;intro i;by_cases c:i<a.length
     ·have d:i<b.length:=by omega
      refine PS λg=>l ⟨i,c,?_⟩
      rw[CJ c,CJ d];simp only[JQ,JO];intro e;apply g;simp[wQ,c,d,e]
     ·rw[MP (by simp[wQ];omega),MP (by simp[wQ];omega)]
   rw[this];cases decide (wQ a=wQ b)<;>rfl
 ·have f:((a.length:Int) !=(b.length:Int))=true:=by rw[JY];omega
  rw[f]
  have:decide (wQ a=wQ b)=false:=by simp only[JO];intro h;have:=congrArg List.length h;simp[wQ]at this;exact j this
  rw[this];rfl
def zRW(p:xH):oK p=some (uY p:Int):=by
 unfold oK uY;obtain⟨e,f,b1⟩:=Sv p.Now [];obtain⟨g,h,b2⟩:=Sv p.Next [];obtain⟨i,j,b3⟩:=Sv [] p.Needs;obtain⟨k,l,b5⟩:=Sv p.Now p.Needs;obtain⟨m,a6,b6⟩:=Sv p.Next p.Needs;simp only[f,h,j,l,a6,AA];unfold X0 at b1 b2 b3 b5 b6;rw[zQw]at b1 b2;rw[zQd]at b3;cases a:rB p.Now
 ·rw[AQ a]at b1
  subst b1;rfl
 rw[AP (by rw[a];simp)]at b1;simp only[NW,EI]at b1;have n:(e.2 !=0)=false:=by rw[b1.1];rfl
 rw[n];cases c:rB p.Next
 ·rw[AQ c]at b2
  subst b2;rfl
 rw[AP (by rw[c];simp)]at b2;simp only[NW,EI]at b2;have o:(g.2 !=0)=false:=by rw[b2.1];rfl
 rw[o];simp only[BB,AA,Bool.and_self,NW,EI]at b3⊢;cases b:kQ p.Needs
 ·rw[AQ b]at b3
  subst b3;rfl
 rw[AP (by rw[b];simp)]at b3;have q:(i.2 !=0)=false:=by rw[b3.1];rfl
 rw[q];simp only[BB,NW,EI];rw[zRa (by have:=X3 a;omega)];by_cases d:wQ p.Now=wQ p.Next
 ·simp only[d,LJ,AA,EG,BB,JZ,TY,EI]
  rw[AP (by rw[a];simp),AP (by rw[b];simp)]at b5;rw[AP (by rw[c];simp),AP (by rw[b];simp)]at b6;have e5:decide (k.1>=0)=!p.Needs.all (jU p.Now):=by rw[<-b5.2,<-MJ];congr 1;simp
  have e6:decide (m.1>=0)=!p.Needs.all (jU p.Next):=by rw[<-b6.2,<-MJ];congr 1;simp
  rw[e5,e6];cases p.Needs.all (jU p.Now)<;>cases p.Needs.all (jU p.Next)<;>rfl
 ·simp only[d,QF,AA,IK,BD,JZ,not_false_eq_true,FO]
  rfl
structure iW(p:xH):Prop where
 now:rB p.Now=true
 next:rB p.Next=true
 needs:kQ p.Needs=true
 names:wQ p.Now=wQ p.Next
 Xo:p.Needs.all (jU p.Now)=true
 aDf:p.Needs.all (jU p.Next)=true
def Ov{p:xH}:uY p=0↔iW p:=by
 unfold uY;constructor
 ·intro h
  split at h
  ·cases h
  ·rename_i a
   split at h
   ·cases h
   ·rename_i c
    split at h
    ·cases h
    ·rename_i d
     split at h
     ·cases h
     ·rename_i b
      simp only[uf,MK,Bool.not_eq_false]at a b;exact⟨a.1,a.2,by simpa using c,Classical.not_not.1 d,b.1,b.2⟩
 ·intro h
  rw[AP (by rw[h.now,h.next];simp),AP (by rw[h.needs];simp),AP (by simp[h.names]),AP (by rw[h.Xo,h.aDf];simp)]
def iW.len{p:xH}(h:iW p):p.Next.length=p.Now.length:=by have:=congrArg List.length h.names;simpa[wQ]using this.symm
def iW.WJ{p:xH}(h:iW p):p.Now.length<=8:=X3 h.now
end Go.Proofs.YtjconpohbhlcmaaGreatDoor
end
