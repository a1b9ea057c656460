/-
  Texts of this seat, put together: rules, walks, plain laws.
  Conditions: none.
-/
import Derived.Test.YtjconpohbhlcmaaGreatDoorVX7
noncomputable section
namespace Go.Proofs.YtjconpohbhlcmaaGreatDoor
open Go IntKind
set_option linter.unusedVariables false
set_option linter.defProp false
set_option linter.unusedSimpArgs false
set_option linter.unusedSectionVars false
set_option maxHeartbeats 4000000
set_option maxRecDepth 10000
abbrev Pn:=zO×Nat×List Nat
def Aw(r:List Nat):Option (Pn×List Nat):=
 (lC r).bind λt=>(bL t.2).bind λv=>(tD 2 v.2).bind λk=>(rd k.1 k.2).bind λd=>(tD 4 d.2).map λs=>((⟨sb t.1,v.1,iz d.1⟩,s.1,r.take (r.length-d.2.length)),s.2)
def nL:Nat->List Nat->Option (List Pn×List Nat)
 |0,r=>some ([],r)|k+1,r=>(Aw r).bind λx=>(nL k x.2).map λy=>(x.1::y.1,y.2)
def Ik(r:List Nat):Option (zY×List Nat):=
 (lC r).bind λt=>(bL t.2).bind λv=>(lC v.2).bind λu=>(bL u.2).map λw=>(⟨sb t.1,v.1,sb u.1,w.1⟩,w.2)
def jF:Nat->List Nat->Option (List zY×List Nat)
 |0,r=>some ([],r)|k+1,r=>(Ik r).bind λx=>(jF k x.2).map λy=>(x.1::y.1,y.2)
def Az(x:Pn):Bool:=decide ((x.2.1:Int)=ny (iz x.2.2))
def zPt(body:List Nat):Option (List Pn×List zY×List Nat):=
 (tD 1 (body.drop 4)).bind λk=>(nL k.1 k.2).bind λx=>(tD 1 x.2).bind λm=>(jF m.1 m.2).map λy=>(x.1,y.1,y.2)
def Cj:yM:=⟨[],[]⟩
def zUc(body:List Nat):yM×Int:=
 if body.take 4≠[66,77,67,70]then(Cj,6)
 else match zPt body with
  |none=>(Cj,6)|some (c,a,b)=>
   if b≠[]then(Cj,6)
   else if c.all Az=false then(Cj,5)
   else if tG ⟨c.map (·.1),a⟩≠0 then(Cj,tG ⟨c.map (·.1),a⟩)
   else(⟨c.map (·.1),a⟩,0)
def qP(b:List Nat):yM×Int:=
 if 8192<b.length then(Cj,3)else if b.length<10 then(Cj,4)
 else if((be (b.drop (b.length-4)):Nat):Int)≠ny (iz (b.take (b.length-4)))then(Cj,5)
 else zUc (b.take (b.length-4))
variable{A:List Nat}{j:List Nat×List Nat}{h:Nat}
def zPy(a:rd h A=some j):j.1=A.take h/\j.2=A.drop h/\h<=A.length:=by
 unfold rd at a;split at a
 ·rename_i b;injection a with a;subst a;exact⟨O,O,b⟩
 ·cases a
def Yp{x:Nat×List Nat}(a:tD h A=some x):x.1=be (A.take h)/\x.2=A.drop h/\h<=A.length:=by
 unfold tD at a;cases b:rd h A with
 |none=>rw[b]at a;cases a|some y=>
  rw[b]at a;obtain⟨c,d,e⟩:=zPy b;simp only[DR,LV]at a;rw[<-a,c,d];exact⟨O,O,e⟩
variable{W:Type}
def vD{a:Type}{o:Option W}{f:W->Option a}{y:a}(h:o.bind f=some y):∃x,o=some x/\f x=some y:=by
 cases o with
 |none=>cases h|some x=>exact⟨x,O,h⟩
def fU{a:Type}{o:Option W}{f:W->a}{y:a}(h:o.map f=some y):∃x,o=some x/\f x=y:=by
 cases o with
 |none=>cases h|some x=>exact⟨x,O,by simpa using h⟩
def zWi(h:lC A=some j):∃k,k+1<=A.length/\be (A.take 1)=k/\j.1=(A.drop 1).take k/\j.2=A.drop (k+1):=by obtain⟨y,d,e⟩:=vD h;obtain⟨f,g,i⟩:=Yp d;obtain⟨a,b,c⟩:=zPy e;rw[g]at a b c;rw[EM]at c;refine⟨y.1,by omega,f.symm,a,?_⟩;rw[b,IV,KU]
def zWL{x:zS×List Nat}(h:bL A=some x):6<=A.length/\x.2=A.drop 6/\x.1=⟨(be (A.take 2):Int),(be ((A.drop 2).take 2):Int),(be ((A.drop 4).take 2):Int)⟩:=by obtain⟨y,e,f⟩:=vD h;obtain⟨z,g,i⟩:=vD f;obtain⟨u,j,k⟩:=fU i;obtain⟨l,m,n⟩:=Yp e;obtain⟨b,c,d⟩:=Yp g;obtain⟨a,g8,g9⟩:=Yp j;rw[m]at b c d;rw[c]at a g8 g9;simp only[EM,IV]at d a g8 g9;subst k;exact⟨by omega,g8,by rw[l,b,a]⟩
def zRU(a:List zO)(x:zO)(h:a.length<=1000):app 64 a [x]=some (a++[x]):=wF (by simp;omega) (by simp;omega)
def zQh(a:List zY)(x:zY)(h:a.length<=1000):app 80 a [x]=some (a++[x]):=wF (by simp;omega) (by simp;omega)
def yCo(I:xJ A)(hl:A.length<=100000)(m:Bool×Int×List Int×Int×Bool×List zO->Option (wZ (Bool×Int×List Int×Int×Bool×List zO) (Bool×List Int×Int×Bool×List zO)))(hm:∀g,m g=bnd (bif decide (g.2.1>0)then some (!g.2.2.2.2.1)else some false:Option Bool) λo2=>bif o2 then bnd (wX (⟨g.2.2.1,g.2.2.2.1,g.2.2.2.2.1⟩:yP)) λr5=>bnd (wG r5.1) λr6=>bnd (yZ r6.1 2) λr7=>bnd (vN r7.1 r7.2) λF=>bnd (yG F.2) λr9=>bnd (yZ F.1 4) λu=>bnd (bif g.1 then bif !u.1.bad then bnd (sub (iz A) g.2.2.2.1 F.1.at_) λl3=>bnd (vW l3) λJ=>some ((wrap .u32 u.2)==J)else(some false)else some false:Option Bool) λK=>bnd (app 64 g.2.2.2.2.2 [(⟨r5.2,r6.2,r9⟩:zO)]) λl4=>some (.next (K,wrap .i64 (g.2.1-1),u.1.b,u.1.at_,u.1.bad,l4))else some (.done (g.1,g.2.2.1,g.2.2.2.1,g.2.2.2.2.1,g.2.2.2.2.2))):∀(k:Nat) (x:Bool) (s:yP) (o:Option (List Nat)) (e:List zO),eu s A o->e.length+k<=300->∃B L p,zZ m (x,(k:Int),s.b,s.at_,s.bad,e)=some (B,L.b,L.at_,L.bad,p)/\eu L A (o.bind λr=>(nL k r).map (·.2))/\(∀y,o.bind (nL k)=some y->p=e++y.1.map (·.1)/\B=(x&&y.1.all Az)):=by
 intro k;induction k with
 |zero=>
  intro x s o e M _;refine⟨x,s,e,?_,?_,λy hy=>?_⟩
  ·apply yV
   rw[hm];rfl
  ·cases o with
   |none=>exact M|some r=>exact M
  ·obtain⟨r,rfl,hr⟩:=vD hy
   simp only[nL,LV]at hr;rw[<-hr];simp
 |succ k ih=>
  intro x s o e M hacc;cases o with
  |none=>
   have c:s.bad=true:=by
    obtain⟨_,a,_,_,h⟩:=M;rcases h with⟨_,h⟩|⟨h,_⟩
    ·cases h
    ·exact h
   refine⟨x,s,e,?_,M,λy hy=>by cases hy⟩;apply yV;rw[hm];simp only[BK (by omega:((k+1:Nat):Int)>0),BD,c,EG,AA,BB]
  |some r=>
   have hs0:=M;obtain⟨e1,a,e2,e3,e4⟩:=M
   have c:s.bad=false/\r=A.drop a:=by
    rcases e4 with⟨h,h2⟩|⟨_,h⟩
    ·injection h2 with h2
     exact⟨h,h2⟩
    ·cases h
   have Po:(⟨s.b,s.at_,s.bad⟩:yP)=s:=rfl;obtain⟨s5,t5,f5,g5,v5⟩:=zYY hs0 I (by omega);obtain⟨s6,t6,f6,g6,v6⟩:=yBW g5 I (by omega);obtain⟨s7,G,f7,g7,N⟩:=Ij g6 I (by omega) (n:=2) (by omega);have hn7:=zGO (b:=A) 2 (by omega) (zPB g6 I);rw[<-N]at hn7;obtain⟨s8,U,f8,g8,w8,v8,_,l8⟩:=zUg g7 I (by omega) (n:=G) (by omega);obtain⟨i,P,f10,f,W⟩:=Ij g8 I (by omega) (n:=4) (by omega);have Pq:=zGO (b:=A) 4 (by omega) (zPB g8 I);rw[<-W]at Pq
   have C:yG (iz U)=some (iz U):=by unfold yG;refine yL (a:=iz U) (zYA (l:=[]) (by simp;omega) (by simp;omega)) O
   have X:∃K,(bif x then bif !i.bad then bnd (sub (iz A) s.at_ s8.at_) λl3=>bnd (vW l3) λJ=>some ((wrap .u32 (P:Int))==J)else(some false)else some false:Option Bool)=some K/\
     (∀z,Aw r=some z->K=(x&&Az z.1)):=by
    cases x
    ·exact⟨false,O,λz _=>O⟩
    ·cases Yq:i.bad
     ·
      obtain⟨_,a10,_,_,q⟩:=f;rcases q with⟨_,q⟩|⟨q,_⟩
      ·obtain⟨F,D,aEP⟩:=vD q
       obtain⟨Q,Yr,_⟩:=fU aEP;obtain⟨r7,hr7,aER⟩:=vD D;obtain⟨y8,Y,Yt⟩:=fU aER;obtain⟨r6,Z,aES⟩:=vD hr7;obtain⟨y7,R,Yu⟩:=fU aES;obtain⟨r5,Yv,aEU⟩:=vD Z;obtain⟨y6,hy6,Yw⟩:=fU aEU;simp only[CS]at Yv;obtain⟨y5,hy5,Yx⟩:=fU Yv;obtain⟨b8,a8,at8,WJ,h8⟩:=g8
       have h8':F=A.drop a8:=by
        rcases h8 with⟨_,h⟩|⟨_,h⟩
        ·rw[D]at h
         injection h
        ·rw[D]at h
         cases h
       have aEV:F.length<=r.length:=by obtain⟨k5,S,_,_,q2⟩:=zWi hy5;obtain⟨V,q4,_⟩:=zWL hy6;obtain⟨_,T,q6⟩:=Yp R;obtain⟨_,q7,q8⟩:=zPy Y;rw[<-Yt,q7,<-Yu,T,<-Yw,q4,<-Yx,q2];simp only[EM];omega
       rw[c.2,h8',EM,EM]at aEV
       have hsub:sub (iz A) s.at_ s8.at_=some (iz (r.take (r.length-F.length))):=by rw[e2,at8,Np (by omega) WJ];congr 2;rw[c.2,h8',EM,EM,LD];congr 1;omega
       have hrl:r.length<=100000:=by rw[c.2,EM];omega
       rw[BD,IK,BD,hsub,AA,zNW _ (by rw[ES,DV];omega),AA,zIe (by omega)];refine⟨_,O,λz hz=>?_⟩
       have hz':Aw r=some ((⟨sb y5.1,y6.1,iz y8.1⟩,Q.1,r.take (r.length-F.length)),Q.2):=by
        unfold Aw;rw[hy5];simp only[CS];rw[Yx,hy6];simp only[CS];rw[Yw,R];simp only[CS];rw[Yu]
        have:rd y7.1 r7=some y8:=by
         have j:G=y7.1:=by rw[N,Z,CS,R];rfl
         rw[<-j];exact Y
        rw[this];simp only[CS];rw[Yt,Yr];rfl
       rw[hz']at hz;injection hz with hz;rw[<-hz]
       have Pv:P=Q.1:=by rw[W,D,CS,Yr];rfl
       rw[Pv,GL];unfold Az;simp only;rw[FK];simp
      ·rw[Yq]at q
       cases q
     ·refine⟨false,O,λz hz=>?_⟩
      exfalso
      obtain⟨t,S,q2⟩:=vD hz;obtain⟨v,V,q4⟩:=vD q2;obtain⟨E,T,q6⟩:=vD q4;obtain⟨d,q7,q8⟩:=vD q6;obtain⟨ss,q9,q10⟩:=fU q8;have c5:((some r).bind λr=>(lC r).map (·.2))=some t.2:=by simp only[CS,S,DR]
      rw[c5]at g6 g7 N g8 f;have c6:((some t.2).bind λr=>(bL r).map (·.2))=some v.2:=by simp only[CS,V,DR]
      rw[c6]at g7 N g8 f;have c7:((some v.2).bind λr=>(tD 2 r).map (·.2))=some E.2:=by simp only[CS,T,DR]
      rw[c7]at g8 f
      have j:G=E.1:=by rw[N,CS,T];rfl
      have c8:((some E.2).bind λr=>(rd G r).map (·.2))=some d.2:=by simp only[CS,j,q7,DR]
      rw[c8]at f;have c10:((some d.2).bind λr=>(tD 4 r).map (·.2))=some ss.2:=by simp only[CS,q9,DR]
      rw[c10]at f;obtain⟨_,_,_,_,h⟩:=f;rcases h with⟨h,_⟩|⟨_,h⟩
      ·rw[Yq]at h;cases h
      ·cases h
   obtain⟨K,ho3,aEW⟩:=X
   have hrec:(((((some r).bind λr=>(lC r).map (·.2)).bind λr=>(bL r).map (·.2)).bind λr=>(tD 2 r).map (·.2)).bind λr=>(rd G r).map (·.2)).bind (λr=>(tD 4 r).map (·.2))=(Aw r).map (·.2):=by
    simp only[CS];unfold Aw;cases h5:lC r with
    |none=>rfl|some t=>
     simp only[DR,CS];cases h6:bL t.2 with
     |none=>rfl|some v=>
      simp only[DR,CS];cases h7:tD 2 v.2 with
      |none=>rfl|some E=>
       simp only[DR,CS]
       have j:G=E.1:=by rw[N];simp only[CS,h5,h6,h7,DR,GK]
       rw[j];cases h8:rd E.1 E.2 with
       |none=>rfl|some d=>
        simp only[DR,CS];cases tD 4 d.2<;>rfl
   rw[hrec]at f;obtain⟨B,L,p,c1,H,c3⟩:=ih K i ((Aw r).map (·.2)) (e++[⟨t5,t6,iz U⟩]) f (by simp;omega);refine⟨B,L,p,?_,?_,λy hy=>?_⟩
   ·refine xV (s':=(K,(k:Int),i.b,i.at_,i.bad,e++[⟨t5,t6,iz U⟩])) ?_ c1
    rw[hm];simp only[BK (by omega:((k+1:Nat):Int)>0),BD,c.1,IK,AA,Po,f5,f6];rw[show(⟨s.b,s.at_,false⟩:yP)=s by rw[<-c.1],f5,AA,f6,AA];rw[show yZ s6 2=some (s7,(G:Int))from f7,AA,f8,AA,C,AA,show yZ s8 4=some (i,(P:Int))from f10,AA,ho3,AA,zRU _ _ (by omega),AA];congr 4;rw[yF (by omega) (by omega)];omega
   ·simp only[CS]
    rw[nL];cases hi:Aw r with
    |none=>rw[hi]at H;exact H|some z=>
     rw[hi]at H;simp only[DR,CS]at H⊢;cases hk:nL k z.2 with
     |none=>rw[hk]at H;exact H|some w=>rw[hk]at H;exact H
   ·simp only[CS]at hy
    rw[nL]at hy;obtain⟨z,hz,hy2⟩:=vD hy;obtain⟨w,hw,hy3⟩:=fU hy2;have h3:=c3 w (by rw[hz];exact hw);have ho:=aEW z hz;obtain⟨t,S,q2⟩:=vD hz;obtain⟨v,V,q4⟩:=vD q2;obtain⟨E,T,q6⟩:=vD q4;obtain⟨d,q7,q8⟩:=vD q6;obtain⟨ss,q9,q10⟩:=fU q8;have Px:t5=sb t.1:=v5 t S;have Py:t6=v.1:=v6 v (by simp only[CS,S,DR,V])
    have j:G=E.1:=by rw[N];simp only[CS,S,V,T,DR,GK]
    have Pz:U=d.1:=v8 d (by simp only[CS,S,V,T,DR,j,q7]);rw[<-hy3,h3.1,h3.2,ho,<-q10];simp only[GY,YT,Px,Py,Pz,FH,SB,JI,Bool.and_assoc];exact⟨trivial,trivial⟩
def yBy(q:xJ A)(hl:A.length<=100000)(m:Int×List Int×Int×Bool×List zY->Option (wZ (Int×List Int×Int×Bool×List zY) (List Int×Int×Bool×List zY)))(C:∀f,m f=bnd (bif decide (f.1>0)then some (!f.2.2.2.1)else some false:Option Bool) λV=>bif V then bnd (wX (⟨f.2.1,f.2.2.1,f.2.2.2.1⟩:yP)) λn=>bnd (wG n.1) λM=>bnd (wX M.1) λN=>bnd (wG N.1) λg=>bnd (app 80 f.2.2.2.2 [(⟨n.2,M.2,N.2,g.2⟩:zY)]) λW=>some (.next (wrap .i64 (f.1-1),g.1.b,g.1.at_,g.1.bad,W))else some (.done (f.2.1,f.2.2.1,f.2.2.2.1,f.2.2.2.2))):∀(k:Nat) (s:yP) (o:Option (List Nat)) (c:List zY),eu s A o->c.length+k<=300->∃j d,zZ m ((k:Int),s.b,s.at_,s.bad,c)=some (j.b,j.at_,j.bad,d)/\eu j A (o.bind λr=>(jF k r).map (·.2))/\(∀y,o.bind (jF k)=some y->d=c++y.1):=by
 intro k;induction k with
 |zero=>
  intro s o c l _;refine⟨s,c,?_,?_,λy hy=>?_⟩
  ·apply yV
   rw[C];rfl
  ·cases o with
   |none=>exact l|some r=>exact l
  ·obtain⟨r,rfl,P⟩:=vD hy
   simp only[jF,LV]at P;rw[<-P];simp
 |succ k X=>
  intro s o c l Q;cases o with
  |none=>
   have e:s.bad=true:=by
    obtain⟨_,a,_,_,h⟩:=l;rcases h with⟨_,h⟩|⟨h,_⟩
    ·cases h
    ·exact h
   refine⟨s,c,?_,l,λy hy=>by cases hy⟩;apply yV;rw[C];simp only[BK (by omega:((k+1:Nat):Int)>0),BD,e,EG,AA,BB]
  |some r=>
   have D:=l;obtain⟨e1,a,e2,e3,e4⟩:=l
   have e:s.bad=false:=by
    rcases e4 with⟨h,h2⟩|⟨_,h⟩
    ·exact h
    ·cases h
   obtain⟨s5,E,Y,Z,v5⟩:=zYY D q (by omega);obtain⟨s6,F,f6,g6,v6⟩:=yBW Z q (by omega);obtain⟨s7,G,f7,g7,v7⟩:=zYY g6 q (by omega);obtain⟨x,H,f8,g8,v8⟩:=yBW g7 q (by omega)
   have p:((((some r).bind λr=>(lC r).map (·.2)).bind λr=>(bL r).map (·.2)).bind λr=>(lC r).map (·.2)).bind (λr=>(bL r).map (·.2))=(Ik r).map (·.2):=by
    simp only[CS];unfold Ik;cases h5:lC r with
    |none=>rfl|some t=>
     simp only[DR,CS];cases h6:bL t.2 with
     |none=>rfl|some v=>
      simp only[DR,CS];cases h7:lC v.2 with
      |none=>rfl|some u=>
       simp only[DR,CS];cases bL u.2<;>rfl
   rw[p]at g8;obtain⟨j,d,c1,i,c3⟩:=X x ((Ik r).map (·.2)) (c++[⟨E,F,G,H⟩]) g8 (by simp;omega);refine⟨j,d,?_,?_,λy hy=>?_⟩
   ·refine xV (s':=((k:Int),x.b,x.at_,x.bad,c++[⟨E,F,G,H⟩])) ?_ c1
    rw[C];simp only[BK (by omega:((k+1:Nat):Int)>0),BD,e,IK,AA];rw[show(⟨s.b,s.at_,false⟩:yP)=s by rw[<-e],Y,AA,f6,AA,f7,AA,f8,AA,zQh _ _ (by omega),AA];congr 3;rw[yF (by omega) (by omega)];omega
   ·simp only[CS]
    rw[jF];cases R:Ik r with
    |none=>rw[R]at i;exact i|some z=>
     rw[R]at i;simp only[DR,CS]at i⊢;cases S:jF k z.2 with
     |none=>rw[S]at i;exact i|some w=>rw[S]at i;exact i
   ·simp only[CS]at hy
    rw[jF]at hy;obtain⟨z,hz,I⟩:=vD hy;obtain⟨w,hw,J⟩:=fU I;have h3:=c3 w (by rw[hz];exact hw);obtain⟨t,B,q2⟩:=vD hz;obtain⟨v,K,q4⟩:=vD q2;obtain⟨u,T,q6⟩:=vD q4;obtain⟨U,q7,q8⟩:=fU q6;have Px:E=sb t.1:=v5 t B;have Py:F=v.1:=v6 v (by simp only[CS,B,DR,K]);have L:G=sb u.1:=v7 u (by simp only[CS,B,DR,K,T]);have Pz:H=U.1:=v8 U (by simp only[CS,B,DR,K,T,q7]);rw[<-J,h3,<-q8];simp only[Px,Py,L,Pz,FH,SB,JI]
def zLD(l:List Int):0<=ny l/\ny l<=4294967295:=zDt _
def zMH(b:List Nat):eu (⟨iz b,0,false⟩:yP) b (some b):=⟨O,0,O,by omega,.inl ⟨O,O⟩⟩
def Za(a:h<=A.length):rd h A=some (A.take h,A.drop h):=by unfold rd;rw[AQ a]
def zFb(a:h<=A.length):tD h A=some (be (A.take h),A.drop h):=by unfold tD;rw[Za a];rfl
def zWQ{s:yP}{r:List Nat}(h:eu s A (some r)):s.bad=false/\∃a:Nat,s.at_=(a:Int)/\a<=A.length/\r=A.drop a:=by
 obtain⟨_,a,d,e,c⟩:=h;rcases c with⟨c,b⟩|⟨_,b⟩
 ·injection b with b
  exact⟨c,a,d,e,b⟩
 ·cases b
def zLv{s:yP}(h:eu s A none):s.bad=true:=by
 obtain⟨_,a,d,e,b⟩:=h;rcases b with⟨_,c⟩|⟨b,_⟩
 ·cases c
 ·exact b
variable{Y:Option (List Nat)}
def zUv{s:yP}(h:eu s A Y)(a:xJ A):((Y.bind (tD 1)).map (·.1)).getD 0<256:=zGO (b:=A) 1 (by omega) (zPB h a)
def zPN(body:List Nat)(a:5<=body.length):zPt body=(nL (be ((body.drop 4).take 1)) (body.drop 5)).bind λx=>(tD 1 x.2).bind λm=>(jF m.1 m.2).map λy=>(x.1,y.1,y.2):=by unfold zPt;rw[zFb (by rw[EM];omega),CS,IV]
def zRN(K:xJ A)(hl:A.length<=100000):gY (iz A)=some (qP A):=by
 unfold gY qP Cj;by_cases L:8192<A.length
 ·rw[AQ L,yT (BK (by rw[ES];omega))]
 rw[AP L,yI (BV (by rw[ES];omega))];by_cases M:A.length<10
 ·rw[AQ M,yT (BK (by rw[ES];omega))]
 rw[AP M,yI (BV (by rw[ES];omega))];have w:wrap .i64 (((iz A).length:Int)-4)=((A.length-4:Nat):Int):=by rw[ES,yF (by omega) (by omega)];omega
 have q:sub (iz A) ((A.length-4:Nat):Int) ((iz A).length:Int)=some (iz (A.drop (A.length-4))):=by rw[ES,Np (by omega) (by omega),GU]
 have s:sub (iz A) 0 ((A.length-4:Nat):Int)=some (iz (A.take (A.length-4))):=by rw[show(0:Int)=((0:Nat):Int)from O,Np (by omega) (by omega),NR]
 rw[w,q,AA,s,AA];have t:(A.take (A.length-4)).length=A.length-4:=by rw[DV];omega
 generalize U:A.take (A.length-4)=body at*;generalize N:A.drop (A.length-4)=tail at*;have d:xJ body:=by rw[<-U];exact K.take _
 have i:xJ tail:=by rw[<-N];exact K.drop _
 have u:tail.length=4:=by rw[<-N,EM];omega
 obtain⟨s1,v1,f1,_,j⟩:=Ij (zMH tail) i (by omega) (n:=4) (by omega);rw[CS,zFb (by omega),DR,GK,IU (by omega)]at j;have v:=Pm tail i;rw[u]at v;refine yL f1 ?_;refine yL (zNW _ (by rw[ES];omega)) ?_;dsimp only;rw[j,zIe (by omega)];by_cases o:((be tail:Nat):Int)≠ny (iz body)
 ·rw[AQ o,yT (by simpa using o)]
 rw[AP o,yI (by simpa using o)];obtain⟨s3,t3,f3,B,w3,V,_,_⟩:=zUg (zMH body) d (by omega) (n:=4) (by omega);have W:=V _ (by rw[CS];exact Za (by omega));rw[CS,Za (by omega),DR]at B;subst W;refine yL f3 ?_;obtain⟨X,f,f4,C,p⟩:=Ij B d (by omega) (n:=1) (by omega);have D:=zUv B d;rw[<-p]at D;rw[CS,zFb (by rw[EM];omega),DR]at C p;simp only[GK,IV]at C p;refine yL f4 ?_;obtain⟨sm,E,og,Y,P,Z⟩:=yCo d (by omega) _ (λ_=>O) f true X _ [] C (by simp;omega);refine yL Y ?_;obtain⟨s6,Q,f6,F,g⟩:=Ij P d (by omega) (n:=1) (by omega);have G:=zUv P d;rw[<-g]at G;refine yL (show yZ (⟨E.b,E.at_,E.bad⟩:yP) 1=_ from f6) ?_;obtain⟨R,H,f7,c,k⟩:=yBy d (by omega) _ (λ_=>O) Q s6 _ [] F (by simp;omega);refine yL f7 ?_;dsimp only
 have l:((iR (iz (body.take 4))).toList==((⟨#[66,77,67,70]⟩):ByteArray).toList)=decide (body.take 4=[66,77,67,70]):=by rw[bW,dT,Nl (d.take 4)];rfl
 rw[l];have m:((iz body).length:Int)=(body.length:Int):=by rw[ES]
 rw[m];unfold zUc Cj;by_cases c4:body.take 4≠[66,77,67,70]
 ·rw[AQ c4,BV c4]
  rfl
 rw[AP c4,BK (by simpa using c4),EG,BB];rw[zPN body (by omega)];rw[show be ((body.drop 4).take 1)=f from p.symm];have S:∀{β:Type} (x y:β),R.bad=true->∀z,(bnd (bif R.bad then some true else z:Option Bool) λo6=>bif o6 then some x else some y)=some x:=λx y h z=>by rw[h];rfl
 cases I:nL f (body.drop 5)with
 |none=>
  have e5:((some (List.drop (4+1) body)).bind λr=>Option.map (λx=>x.2) (nL f r))=none:=by rw[CS,I];rfl
  rw[e5]at F;rw[Option.bind_none]at F;rw[show(((some (List.drop (4+1) body)).bind λr=>Option.map (λx=>x.2) (nL f r)).bind λr=>Option.map (λx=>x.2) (tD 1 r))=none by rw[e5];rfl]at c;rw[zLv c];rfl
 |some x=>
  have e5:((some (List.drop (4+1) body)).bind λr=>Option.map (λx=>x.2) (nL f r))=some x.2:=by rw[CS,I];rfl
  obtain⟨i1,i2⟩:=Z x (by rw[CS];exact I);rw[e5]at c k g;rw[CS]at c k g;rw[CS];cases T:tD 1 x.2 with
  |none=>
   rw[T]at c;rw[zLv c];rfl
  |some y=>
   rw[T]at c k g;rw[DR,CS]at c k;rw[DR,GK]at g;rw[CS,<-g];cases J:jF Q y.2 with
   |none=>
    rw[J]at c;rw[zLv c];rfl
   |some z=>
    rw[J]at c;have j1:=k z J;obtain⟨k1,a,k2,k3,k4⟩:=zWQ c;rw[k1,BB,AA,DR];dsimp only;rw[k2]
    have e:((a:Int) !=(body.length:Int))=decide (z.2≠[]):=by rw[FK];simp only[JY,JZ,FP,k4,uo];omega
    rw[e];by_cases c5:z.2≠[]
    ·rw[AQ c5,BK c5]
     rfl
    rw[AP c5,BV c5,BB,i2,GL,i1,j1,JI,JI];cases c6:x.1.all Az
    ·rfl
    ·rw[EG,BB,zSZ,AA]
     by_cases c7:tG ⟨x.1.map (·.1),z.1⟩≠0
     ·rw[AP (by simp),AQ c7,yT (by simpa using c7)]
     ·rw[AP (by simp),AP c7,yI (by simpa using c7)]
def Il(n:Nat):List Nat:=[n/256%256,n%256]
def Io(n:Nat):List Nat:=[n/16777216%256,n/65536%256,n/256%256,n%256]
def Uc(v:zS):List Nat:=Il v.CB.toNat++(Il v.CG.toNat++Il v.CQ.toNat)
def Qa(s:ByteArray):List Nat:=s.size%256::bs s
def Qb(d:List Int):List Nat:=d.map Int.toNat
def yBO(i:zO):List Nat:=Qa i.Name++(Uc i.Version++(Il i.Data.length++Qb i.Data))
def Zb(i:zO):List Nat:=yBO i++Io (WI i).toNat
def Zc(n:zY):List Nat:=Qa n.DX++(Uc n.From++(Qa n.On++Uc n.At))
def Zd(b:yM):List Nat:=[66,77,67,70,b.BA.length%256]++(b.BA.flatMap Zb++(b.Needs.length%256::b.Needs.flatMap Zc))
def Ze(b:yM):List Nat:=Zd b++Io (ny (iz (Zd b))).toNat
def okD(i:zO):Prop:=Ji (Di .u8) i.Data
def Ud(b:yM):Prop:=∀i∈b.BA,okD i
def zSO:two (h:Int)=iz (Il h):=by unfold two Il;rw[show(8:Int)=((8:Nat):Int)from O,cO (by decide),uP,uP];rfl
def zZn:Cc (h:Int)=iz (Io h):=by unfold Cc Io;rw[show(24:Int)=((24:Nat):Int)from O,show(16:Int)=((16:Nat):Int)from O,show(8:Int)=((8:Nat):Int)from O,cO (by decide),cO (by decide),cO (by decide),uP,uP,uP,uP];rfl
variable{J:Int}
def zKZ(h:0<=J):Cc J=iz (Io J.toNat):=by rw[<-zZn];congr 1;omega
def zOE(h:0<=J):two J=iz (Il J.toNat):=by rw[<-zSO];congr 1;omega
def zOi(h:Jz J=true):0<=J/\J<=999:=by unfold Jz at h;simpa using h
def zZU{v:zS}(h:UZ v=true):(0<=v.CB/\v.CB<=999)/\(0<=v.CG/\v.CG<=999)/\(0<=v.CQ/\v.CQ<=999):=by unfold UZ at h;simp only[GX]at h;exact⟨zOi h.1,zOi h.2.1,zOi h.2.2⟩
def zSr{v:zS}(h:UZ v=true):ZP v=iz (Uc v):=by obtain⟨a,b,c⟩:=zZU h;unfold ZP Uc;rw[zOE a.1,zOE b.1,zOE c.1,mK,mK]
def zOs(s:ByteArray):Ce s=iz (Qa s):=by unfold Ce Qa;rw[uP,zSt,zh]
variable{F:List Int}
def zWT(h:Ji (Di .u8) F):F=iz (Qb F):=by
 obtain⟨l,_,rfl⟩:=zXX h;congr 1;unfold Qb iz;rw[MH]
 conv=>lhs;rw[<-QH l]
 apply MS;intro x _;simp
def yBS(h:Ji (Di .u8) F):xJ (Qb F):=by obtain⟨l,a,b⟩:=zXX h;have:Qb F=l:=zZg (by rw[<-zWT h,b]);rw[this];exact a
@[simp] def Ip(d:List Int):(Qb d).length=d.length:=by simp[Qb]
variable{P:zO}
def yBt(h:UZ P.Version=true)(a:okD P):dw P=iz (yBO P):=by
 have:dw P=Ce P.Name++(ZP P.Version++(two (P.Data.length:Int)++P.Data)):=rfl;rw[this,zOs,zSr h,zSO];unfold yBO
 conv=>lhs;rw[zWT a]
 rw[mK,mK,mK];congr 4;rw[ES,Ip]
def yAq(h:vU P=true)(a:okD P):Ci P=iz (Zb P):=by unfold Ci Zb;rw[yBt (jW h).2.1 a,zKZ (zSp P).1,mK]
def zUQ{n:zY}(h:fY n=true):qY n.DX=true/\qY n.On=true/\UZ n.From=true/\UZ n.At=true:=by unfold fY at h;simp only[GX]at h;exact⟨h.1,h.2.1,h.2.2.2.1,h.2.2.2.2⟩
def zZv{n:zY}(h:fY n=true):Cf n=iz (Zc n):=by obtain⟨c,d,a,b⟩:=zUQ h;unfold Cf Zc;rw[zOs,zOs,zSr a,zSr b,mK,mK,mK]
def zOn{a:Type}(f:a->List Int)(g:a->List Nat):∀(l:List a),(∀x∈l,f x=iz (g x))->l.flatMap f=iz (l.flatMap g)
 |[],_=>rfl|x::r,h=>by rw[OI,OI,h x (by simp),zOn f g r λy hy=>h y (by simp[hy]),mK]
variable{Q:yM}
def yBp(h:tG Q=0)(b:Ud Q):Ii Q=iz (Zd Q):=by obtain⟨f,g,c,j,d⟩:=Ez h;unfold Ii Pj Zd;rw[uP,uP,zOn Ci Zb _ λi a=>yAq (c i a) (b i a),zOn Cf Zc _ λn e=>zZv (d n e)];simp only[<-mK,zh,Nk,FH,SB,JI];rfl
def zTK(h:tG Q=0)(a:Ud Q):Fa Q=iz (Ze Q):=by unfold Fa Ze;rw[zKZ (zLD _).1,yBp h a,mK]
def zJP(n:Nat):xJ (Il n):=.cons (by omega) (.cons (by omega) .nil)
def zHB(n:Nat):xJ (Io n):=.cons (by omega) (.cons (by omega) (.cons (by omega) (.cons (by omega) .nil)))
def zOA(v:zS):xJ (Uc v):=(zJP _).app ((zJP _).app (zJP _))
def zPn(s:ByteArray):xJ (Qa s):=.cons (by omega) (yCy s)
def zXC(h:okD P):xJ (Zb P):=((zPn _).app ((zOA _).app ((zJP _).app (yBS h)))).app (zHB _)
def zYp(n:zY):xJ (Zc n):=(zPn _).app ((zOA _).app ((zPn _).app (zOA _)))
def zTP(g:W->List Nat)(l:List W)(h:∀x∈l,xJ (g x)):xJ (l.flatMap g):=λx b=>by obtain⟨y,hy,a⟩:=List.mem_flatMap.1 b;exact h y hy x a
def zYi(a:Ud Q):xJ (Zd Q):=
 (xJ.cons (by omega) (.cons (by omega) (.cons (by omega) (.cons (by omega) (.cons (by omega) .nil))))).app ((zTP _ _ λi b=>zXC (a i b)).app (.cons (by omega) (zTP _ _ λn _=>zYp n)))
def zXw(a:Ud Q):xJ (Ze Q):=(zYi a).app (zHB _)
def zSj(a:h<4294967296):be (Io h)=h:=by simp only[be,Io,LW,YS];omega
def zVZ(h:tG Q=0)(a:Ud Q):(Ze Q).length=(Fa Q).length:=by rw[zTK h a,ES]
def zSg(s:ByteArray):qY s=pY s:=by have:=(zIi s).symm.trans (zOW s);injection this
structure DL(L:List zA):Prop where
 pos:1<=L.length
 le:L.length<=8
 names:eZ (L.map (·.Name))=true
 je:∀d∈L,zq d
def yCd(L:List zA):Prop:=DL L/\∀d∈L,d.Active=0
variable{y:ByteArray}
def yBV{x:Int}(b:qY y=true)(e:1<=J/\J<=2):zq (Hy ⟨y,⟨J,0,0⟩,[x]⟩).1/\(Hy ⟨y,⟨J,0,0⟩,[x]⟩).1.Active=0/\(Hy ⟨y,⟨J,0,0⟩,[x]⟩).1.Name=y:=by have c:vU ⟨y,⟨J,0,0⟩,[x]⟩=true:=zYz b (zYS (by simp only;omega) (by simp only;omega) (by simp only;omega) (by simp only;omega) (by simp only;omega) (by simp only;omega)) (by simp) (by simp);obtain⟨a,f,d⟩:=yAe c;rw[d]at a⊢;exact⟨⟨a.vd,a.sm,O,O⟩,O,O⟩
variable{e:xT}
def zQJ(p:vB e)(M:1<=h)(N:h<=5):∃r,rD e (h:Int)=some r/\vB r.1/\yCd r.2/\r.2.length<=h:=by
 unfold rD;rw[zZj,AA];refine mD (jV p (n:=(h:Int)) (by omega)) λg ⟨u,P,Q⟩=>?_
 obtain⟨n,v⟩:∃n:Nat,g.2=(n:Int):=⟨g.2.toNat,by omega⟩;have w:n<5:=by omega
 have y:sub eO 0 (wrap .i64 (1+g.2))=some (eO.take (n+1)):=by rw[v,show(1+(n:Int))=((n+1:Nat):Int)by omega,xN (by omega)];unfold sub;rw[AQ ⟨by omega,by omega,by show((n+1:Nat):Int)<=6;omega⟩];simp
 rw[y,AA];have l:(eO.take (n+1)).length=n+1:=by rw[DV];show min (n+1) 6=_;omega
 have A:=zZD (n+1) (by omega)
 have j:∀i,(a:i<(eO.take (n+1)).length)->qY (eO.take (n+1))[i]=true:=λi a=>by rw[zSg];have:=yBx i (by omega);rw[RX];rw[CJ (by show i<6;omega)]at this;exact this
 generalize R:eO.take (n+1)=T at*
 refine lE (λs=>vB ⟨s.2.2.1,s.2.2.2⟩/\∃i:Nat,s.2.1=(i:Int)/\i<=T.length/\s.1.map (·.Name)=T.take i/\∀d∈s.1,zq d/\d.Active=0) (λs=>T.length-s.2.1.toNat)
  (λt=>vB ⟨t.2.1,t.2.2⟩/\t.1.map (·.Name)=T/\∀d∈t.1,zq d/\d.Active=0) ⟨u,0,O,KJ _,O,λd b=>by cases b⟩ (λs ⟨m,i,B,S,k,o⟩=>?_) (λt ⟨b1,b2,b3⟩=>?_)
 ·rw[B]
  by_cases c:i<T.length
  ·rw[BK (by omega:(i:Int)<(T.length:Int)),BD,yN c,AA]
   refine mD (jV m (n:=5) (by omega)) λf ⟨C,U,V⟩=>?_
   refine mD (jV C (n:=4) (by omega)) λD ⟨E,W,X⟩=>?_
   have F:1<=wrap .i64 (1+wrap .i64 (f.2.tdiv 4))/\wrap .i64 (1+wrap .i64 (f.2.tdiv 4))<=2:=by
    obtain⟨q,G⟩:∃q:Nat,f.2=(q:Int):=⟨f.2.toNat,by omega⟩;have H:q<5:=by omega
    rw[G,show(4:Int)=((4:Nat):Int)from O,zWZ,xN (by omega),show(1+((q/4:Nat):Int))=((1+q/4:Nat):Int)by omega,xN (by omega)];omega
   obtain⟨I,J,K⟩:=yBV (x:=wrap .u8 D.2) (j i c) F;have L:s.1.length=i:=by have:=congrArg List.length k;rw[FQ,DV]at this;omega
   rw[zZO (show small _ from by simp[small]),AA,wF (by simp;omega) (by simp;omega),AA,zV c (by omega)];refine⟨_,O,⟨E,i+1,O,by omega,?_,?_⟩,?_⟩
   ·rw[MC,k,xA c]
    exact congrArg (λz=>T.take i++[z]) K
   ·intro d b
    rcases DW.1 b with b|b
    ·exact o d b
    ·rw[FI.1 b];exact⟨I,J⟩
   ·show T.length-((i+1:Nat):Int).toNat<T.length-(i:Int).toNat
    simp only[JG];omega
  ·rw[BV (by omega:¬(i:Int)<(T.length:Int)),BB]
   refine⟨_,O,m,?_,o⟩;rw[k,IU (by omega)]
 ·have Y:t.1.length=T.length:=by have:=congrArg List.length b2;simpa using this
  exact⟨_,O,b1,⟨⟨by show 1<=t.1.length;omega,by show t.1.length<=8;omega,by show eZ (t.1.map (·.Name))=true;rw[b2];exact A,λd b=>(b3 d b).1⟩,λd b=>(b3 d b).2⟩,by show t.1.length<=h;omega⟩
def zSH(c:vB e){most:Nat}(d:1<=most)(f:most<=5):∃r,rD e (most:Int)=some r/\vB r.1/\yCd r.2:=by obtain⟨r,a,b,e,_⟩:=zQJ c d f;exact⟨r,a,b,e⟩
structure yCp(L:List zA)(l:List zY):Prop where
 len:l.length<=3
 ok:tH l=true
 aKe:∀x∈l,x.From=⟨2,0,0⟩
variable{Z:List ByteArray}
def zPS(h:eZ Z=true){i:Nat}(a:i<Z.length):qY Z[i]=true:=by rw[zSg];have:=List.all_eq_true.1 (JV.1 h).2 i (by simpa using a);rw[CJ a]at this;exact(JV.1 this).1
def zIf:∀(x y z:List UInt8),Op.bytesLess x y=true->Op.bytesLess y z=true->Op.bytesLess x z=true
 |[],[],_,h,_=>by simp[Op.bytesLess]at h|[],_::_,[],_,h=>by simp[Op.bytesLess]at h|[],_::_,_::_,_,_=>by simp[Op.bytesLess]|_::_,[],_,h,_=>by simp[Op.bytesLess]at h|_::_,_::_,[],_,h=>by simp[Op.bytesLess]at h|a::x,b::y,c::z,e,d=>by
  simp only[Op.bytesLess,KZ,GX,FP,KL]at e d⊢;rcases e with e|⟨e,f⟩
  ·rcases d with d|⟨d,_⟩
   ·exact .inl (UInt8.lt_trans e d)
   ·subst d;exact .inl e
  ·subst e
   rcases d with d|⟨d,g⟩
   ·exact .inl d
   ·subst d;exact .inr ⟨O,zIf x y z f g⟩
def zFU(h:eZ Z=true){i:Nat}(a:i+1<Z.length):blt Z[i] Z[i+1]=true:=by have:=List.all_eq_true.1 (JV.1 h).2 (i+1) (by simpa using a);rw[CJ a]at this;have b:=(JV.1 this).2;rw[PZ,CJ (by omega)]at b;simpa using b
variable{E:Nat}
def zRc(a:eZ Z=true)(c:h<E)(b:E<Z.length):blt (Z[h]'(by omega)) Z[E]=true:=by
 induction E with
 |zero=>omega|succ E d=>
  by_cases e:h=E
  ·subst e;exact zFU a b
  ·exact zIf _ _ _ (d (by omega) (by omega)) (zFU a b)
def zDe:∀(x:List UInt8),Op.bytesLess x x=false
 |[]=>rfl|a::x=>by simp[Op.bytesLess,zDe x]
def zQV(h:eZ Z=true){i j:Nat}(d:i<Z.length)(e:j<Z.length)(a:i≠j):Z[i]≠Z[j]:=by
 intro c;rcases Nat.lt_or_gt_of_ne a with b|b
 ·have:=zRc h b e
  rw[c]at this;unfold blt at this;rw[zDe]at this;cases this
 ·have:=zRc h b d
  rw[c]at this;unfold blt at this;rw[zDe]at this;cases this
variable{G:List zA}
def zWJ(w:vB e)(c:DL G):∃r,bB e G=some r/\vB r.1/\yCp G r.2:=by
 unfold bB;have y:=c.le;refine mD (jV w (n:=4) (by omega)) λH ⟨z,A,I⟩=>?_
 refine lE (λs=>vB ⟨s.2.2.1,s.2.2.2⟩/\0<=s.2.1/\(s.1.length:Int)+s.2.1<=3/\(∀x∈s.1,fY x=true/\x.From=⟨2,0,0⟩)) (λs=>s.2.1.toNat)
  (λt=>vB ⟨t.2.1,t.2.2⟩/\t.1.length<=3/\(∀x∈t.1,fY x=true/\x.From=⟨2,0,0⟩)) ⟨z,A,by simp;omega,λx a=>by cases a⟩ (λs ⟨f,J,K,d⟩=>?_) (λt ⟨b1,b2,b3⟩=>?_)
 ·by_cases g:s.2.1>0
  ·by_cases k:(G.length:Int)>1
   ·rw[BK g,BD,BK k,AA,BD]
    refine mD (jV f (n:=(G.length:Int)) (by omega)) λl ⟨B,L,M⟩=>?_
    refine mD (jV B (n:=(G.length:Int)) (by omega)) λm ⟨C,N,P⟩=>?_
    obtain⟨i,D⟩:∃i:Nat,l.2=(i:Int):=⟨l.2.toNat,by omega⟩;obtain⟨j,E⟩:∃j:Nat,m.2=(j:Int):=⟨m.2.toNat,by omega⟩;rw[D,E,yN (by omega:i<G.length),AA,yN (by omega:j<G.length),AA];refine mD (jV C (n:=2) (by omega)) λo ⟨p,Q,R⟩=>?_
    by_cases b:i=j
    ·rw[yI (by simp[b]),yF (by omega) (by omega)]
     exact⟨_,O,⟨p,by show 0<=s.2.1-1;omega,by show(s.1.length:Int)+(s.2.1-1)<=3;omega,d⟩,by show(s.2.1-1).toNat<s.2.1.toNat;omega⟩
    ·rw[yT (by simp;omega),wF (by simp;omega) (by simp;omega),AA,yF (x:=1+o.2) (by omega) (by omega),yF (x:=s.2.1-1) (by omega) (by omega)]
     refine⟨_,O,⟨p,by show 0<=s.2.1-1;omega,by show((s.1++[_]).length:Int)+(s.2.1-1)<=3;simp;omega,?_⟩,by show(s.2.1-1).toNat<s.2.1.toNat;omega⟩;intro x a;rcases DW.1 a with a|a
     ·exact d x a
     ·rw[FI.1 a]
      have F:(G.map (·.Name)).length=G.length:=FQ ..;have q:=zPS c.names (i:=i) (by omega);have u:=zPS c.names (i:=j) (by omega);have h:=zQV c.names (i:=i) (j:=j) (by omega) (by omega) b;rw[IE]at q u h;rw[IE]at h;refine⟨?_,O⟩;unfold fY;simp only;rw[q,u,BV h];rw[show UZ ⟨2,0,0⟩=true from by decide,zYS (v:=⟨1+o.2,0,0⟩) (by simp only;omega) (by simp only;omega) (by simp only;omega) (by simp only;omega) (by simp only;omega) (by simp only;omega)];rfl
   ·rw[BK g,BD,BV k,AA,BB]
    exact⟨_,O,f,by show s.1.length<=3;omega,d⟩
  ·rw[BV g,BB,AA,BB]
   exact⟨_,O,f,by show s.1.length<=3;omega,d⟩
 ·refine⟨_,O,b1,b2,?_,λx a=>(b3 x a).2⟩
  unfold tH;rw[BK (by omega:t.1.length<=16),GL];exact List.all_eq_true.2 λx a=>(b3 x a).1
def zTW(l:List Int):Prop:=∃b,xJ b/\b.length<=8192/\l=iz b
def zVL{b:yM}(h:Ud b):zTW (Ym b).1:=by
 unfold Ym;by_cases a:tG b=0
 ·rw[AQ a]
  split
  ·exact⟨[],xJ.nil,by simp,O⟩
  ·have c:=zVZ a h
   have d:=zYt a;exact⟨Ze b,zXw h,by omega,zTK a h⟩
 ·rw[AP a]
  exact⟨[],xJ.nil,by simp,O⟩
def zUC{v:zS}(h:0<=J/\J<=255):okD ⟨y,v,[J]⟩:=by refine⟨λa hy=>?_,by show 1<=maxLen;unfold maxLen;omega⟩;rw[FI.1 hy];exact zTg.2 h
def xJ.set{l:List Nat}(h:xJ l)(i:Nat){v:Nat}(b:v<256):xJ (l.set i v):=by
 intro x a;rcases TR a with a|a
 ·exact h x a
 ·omega
def zVr(x:Int):0<=wrap .u8 x/\wrap .u8 x<=255:=by rw[N9];omega
variable{I:List zY}
def zXW(F:vB e)(X:G.length<=8)(Y:I.length<=1000):∃r,gS e G I=some r/\vB r.1/\zTW r.2:=by
 unfold gS
 refine lE (λs=>vB ⟨s.2.2.1,s.2.2.2⟩/\∃i:Nat,s.1=(i:Int)/\i<=G.length/\s.2.1.length<=i/\∀x∈s.2.1,okD x) (λs=>G.length-s.1.toNat)
  (λt=>vB ⟨t.2.1,t.2.2⟩/\t.1.length<=8/\∀x∈t.1,okD x) ⟨F,0,O,KJ _,FN _,λx c=>by cases c⟩ (λs ⟨l,i,v,H,J,w⟩=>?_) (λZ ⟨b1,b2,b3⟩=>?_)
 ·rw[v]
  by_cases f:i<G.length
  ·rw[BK (by omega:(i:Int)<(G.length:Int)),BD,yN f,AA]
   refine mD (jV l (n:=5) (by omega)) λK ⟨a,q,m⟩=>?_
   by_cases g:K.2<4
   ·rw[BK g,BD]
    refine mD (jV a (n:=6) (by omega)) λr2 ⟨L,d2,d3⟩=>?_
    refine mD (jV L (n:=256) (by omega)) λr3 ⟨M,e2,e3⟩=>?_
    rw[wF (by simp;omega) (by simp;omega),AA,zV f (by omega)];refine⟨_,O,⟨M,i+1,O,by omega,by show(s.2.1++[_]).length<=i+1;simp;omega,λx c=>?_⟩,by show G.length-((i+1:Nat):Int).toNat<G.length-(i:Int).toNat;simp only[JG];omega⟩;rcases DW.1 c with c|c
    ·exact w x c
    ·rw[FI.1 c];exact zUC (zVr _)
   ·rw[BV g,BB,zV f (by omega)]
    exact⟨_,O,⟨a,i+1,O,by omega,by show s.2.1.length<=i+1;omega,w⟩,by show G.length-((i+1:Nat):Int).toNat<G.length-(i:Int).toNat;simp only[JG];omega⟩
  ·rw[BV (by omega:¬(i:Int)<(G.length:Int)),BB]
   exact⟨_,O,l,by show s.2.1.length<=8;omega,w⟩
 refine lE (λs=>vB ⟨s.2.2.1,s.2.2.2⟩/\∃i:Nat,s.1=(i:Int)/\i<=I.length/\s.2.1.length<=i) (λs=>I.length-s.1.toNat)
  (λt=>vB ⟨t.2.1,t.2.2⟩/\t.1.length<=1000) ⟨b1,0,O,KJ _,FN _⟩ (λs ⟨l,i,v,H,J⟩=>?_) (λo2 ⟨f1,f2⟩=>?_)
 ·rw[v]
  by_cases f:i<I.length
  ·rw[BK (by omega:(i:Int)<(I.length:Int)),BD,yN f,AA]
   refine mD (jV l (n:=2) (by omega)) λN ⟨a,q,m⟩=>?_
   by_cases g:N.2=0
   ·rw[yT (by simpa using g),wF (by simp;omega) (by simp;omega),AA,zV f (by omega)]
    exact⟨_,O,⟨a,i+1,O,by omega,by show(s.2.1++[_]).length<=i+1;simp;omega⟩,by show I.length-((i+1:Nat):Int).toNat<I.length-(i:Int).toNat;simp only[JG];omega⟩
   ·rw[yI (by simpa using g),zV f (by omega)]
    exact⟨_,O,⟨a,i+1,O,by omega,by show s.2.1.length<=i+1;omega⟩,by show I.length-((i+1:Nat):Int).toNat<I.length-(i:Int).toNat;simp only[JG];omega⟩
  ·rw[BV (by omega:¬(i:Int)<(I.length:Int)),BB]
   exact⟨_,O,l,by show s.2.1.length<=1000;omega⟩
 refine mD (P:=λo:List zO×List zY×List Int×Int=>vB ⟨o.2.2.1,o.2.2.2⟩/\∀x∈o.1,okD x) ?_ λu ⟨Q,R⟩=>?_
 ·refine mD (jV f1 (n:=16) (by omega)) λA ⟨a,q,m⟩=>?_
  by_cases d:A.2=15
  ·rw[yT (by simpa using d),wF (by simp;omega) (by simp;omega),AA]
   refine⟨_,O,a,λx c=>?_⟩;rcases DW.1 c with c|c
   ·exact b3 x c
   ·rw[FI.1 c];exact zUC (by decide)
  ·rw[yI (by simpa using d)]
   by_cases p:A.2=14
   ·rw[yT (by simpa using p),wF (by simp;omega) (by simp;omega),AA]
    exact⟨_,O,a,b3⟩
   ·rw[yI (by simpa using p)]
    exact⟨_,O,a,b3⟩
 rw[zSS,AA];obtain⟨B,y,C,z⟩:=zVL (b:=⟨u.1,u.2.1⟩) R;generalize Ym ⟨u.1,u.2.1⟩=er at*;refine mD (P:=λo:Bool×List Int×Int=>vB ⟨o.2.1,o.2.2⟩/\(o.1=true->0<er.1.length)) ?_ λS ⟨D,T⟩=>?_
 ·refine mD (jV Q (n:=16) (by omega)) λU ⟨a,q,m⟩=>?_
  by_cases d:U.2=15
  ·rw[yT (by simpa using d)]
   exact⟨_,O,a,λh=>by have:=OJ h;omega⟩
  ·rw[yI (by simpa using d)]
   exact⟨_,O,a,λh=>by cases h⟩
 cases g:S.1
 ·rw[BB]
  exact⟨_,O,D,B,y,C,z⟩
 ·rw[BD]
  have hp:=T g;refine mD (jV D (n:=(er.1.length:Int)) (by omega)) λE ⟨a,q,m⟩=>?_
  obtain⟨k,V⟩:∃k:Nat,E.2=(k:Int):=⟨E.2.toNat,by omega⟩;have j:k<B.length:=by rw[z,ES]at m;omega
  rw[V,z,iV j,AA];have hb:=y.get j;have W:wrap .u8 (((B[k]:Nat):Int)+1)=(((B[k]+1)%256:Nat):Int):=by rw[N9];omega
  rw[W,yAE j,AA];exact⟨_,O,a,_,y.set k (by omega),by simpa using C,O⟩
def sL(d:zA):zA:=⟨d.Name,d.Slots,d.Active,d.Active,false⟩
variable{R:zA}
def zVk(b:VD R)(d:vQ R)(m:zA->Option (wZ zA zA))(f:∀c,m c=bnd (bif c.CX then some true else some (c.Running !=c.Active):Option Bool) λl=>bif l then bnd (mQ c) λn=>some (.next n)else some (.done c)):zZ m R=some (sL R):=by
 have j:∀e,vQ e->mQ e=some (dL e):=λe o=>Sr o
 have k:∀e:zA,VD e->vQ e->e.CX=false->zZ m e=some (sL e):=by
  intro e b d a;by_cases g:e.Running=e.Active
  ·refine yV ?_
   rw[f,a,BB,AA,yI (by simpa using g)];obtain⟨nm,sl,q,r,s⟩:=e;simp only at g a;subst g;subst a;rfl
  ·have i:dL e=sL e:=by unfold dL;rw[(rN _).2 b,BD,a,BB];rfl
   refine xV (s':=sL e) ?_ (yV ?_)
   ·rw[f,a,BB,AA,yT (by simpa using g),j _ d,i,AA]
   ·rw[f]
    show bnd (bif false then _ else some ((sL e).Running !=(sL e).Active)) _=_;rw[BB,AA,yI (by simp[sL])]
 cases a:R.CX
 ·exact k R b d a
 ·obtain⟨t,p⟩:=b.tr a
  have i:dL R=WL R:=by unfold dL;rw[(rN _).2 b,BD,a,BD];rfl
  refine xV (s':=WL R) ?_ ?_
  ·rw[f,a,BD,AA,BD,j _ d,i,AA]
  ·exact k (WL R) ⟨b.ba,uD b.ba,b.ga,p,λh=>by cases h⟩ d rfl
def zVN(h:zq R):sL R=R:=by obtain⟨_,_,a,b⟩:=h;obtain⟨nm,sl,c,d,e⟩:=R;simp only at a b;subst a;subst b;rfl
def Zf(L:List zA)(N:List zY):zD:=⟨true,L,N,0,WM,0,[]⟩
def zKF(h:I.length<=1000):xS I=some I:=by unfold xS;rw[wF (by simp;omega) (by simp;omega),AA];simp
def zXn(p:1<=G.length)(q:G.length<=8)(k:eZ (G.map (·.Name))=true)(e:∀d∈G,VD d/\vQ d)(f:tH I=true)(s:zE)(d:zB):sJ s G I d=bnd (vM s 32) λg=>bif !g.2 then some (s,d,(some (Zf (G.map sL) I)),0)else bnd (sV (Zf (G.map sL) I) g.1) λh=>bif !h.2 then some (s,d,none,6)else bnd (xP h.1 s d) λc=>bif(c.2.2.2 !=0)then some (c.2.1,c.2.2.1,none,c.2.2.2)else some (c.2.1,c.2.2.1,(some c.1),0):=by
 unfold sJ;rw[BV (by omega:¬(G.length:Int)<1),BB,AA,BV (by omega:¬(G.length:Int)>8),BB];refine xM (λi=>(i:Int)) G.length (.inr ()) O (λi b=>?_) ?_ ?_
 ·rw[BK (by omega:(i:Int)<(G.length:Int)),BD,yN b,AA,fZ,AA,(rN _).2 (e _ (DJ b)).1,EG,BB]
  refine yL (a:=false) ?_ (by rw[BB,zV b (by omega)]);by_cases m:i=0
  ·subst m;rfl
  ·rw[BK (by omega:(i:Int)>0),BD,Ws (by omega) b (by omega),yN (by omega:i-1<G.length),AA,zGX]
   have:=zFU k (i:=i-1) (by rw[FQ];omega);rw[IE,IE,<-blt_eq]at this;simp only[show i-1+1=i by omega]at this;rw[this];rfl
 ·rw[BV (by omega:¬(G.length:Int)<(G.length:Int))]
  rfl
 simp only[FD];rw[zIN,AQ f,AA];simp only[JR,BB];have n:I.length<=16:=OJ (JV.1 f).1;rw[zKF (by omega),AA];refine xM (λi=>((i:Int),(G.map sL).take i)) G.length (G.map sL) O (λi b=>?_) ?_ O
 ·simp only
  obtain⟨o,j⟩:=e _ (DJ b);rw[BK (by omega:(i:Int)<(G.length:Int)),BD,yN b,AA,zSP j,AA,zVk o j _ (λ_=>O),AA,wF (by simp;omega) (by simp;omega),AA,zV b (by omega),xA (l:=G.map sL) (by simpa using b)];simp
 ·simp only
  rw[BV (by omega:¬(G.length:Int)<(G.length:Int)),BB,IU (by simp)]
def zYF(h:∀d∈G,zq d):G.map sL=G:=by
 have:=MS (f:=sL) (g:=id) λd a=>zVN (h d a)
 rw[this,QH]
def yCN{s:zE}{o:OS}(b:ng s h o)(c:QM o.K)(k:Int):vM s k=some ((nS o.K k).getD [],(nS o.K k).isSome):=by
 obtain⟨m,d,g,a⟩:=b.all;unfold vM
 have e:tO (yW .u8).eq (s.all.getD []) k=nS o.K k:=by rw[d,<-a,Tf];rfl
 rw[e,gE]
 ·rfl
 ·cases f:nS o.K k with
  |none=>simp|some v=>
   have:=(zRx a c k v (by rw[<-Tf,a];exact f)).1;simp;omega
variable{S:zB}
def zYQ(h:DL G)(c:tH I=true){s:zE}(a:ZV S s 0)(d:nS (DU S 0).K 32=none):sJ s G I S=some (s,S,some (Zf G I),0):=by rw[zXn h.pos h.le h.names (λS b=>⟨(h.je S b).vd,(h.je S b).sm⟩) c,yCN a.rel a.okK,AA,d,zYF h.je];rfl
def RD(x y:zY):Bool:=(x.DX.toList==y.DX.toList)&&(((x.From.CB==y.From.CB)&&((x.From.CG==y.From.CG)&&((x.From.CQ==y.From.CQ)&&true)))&&((x.On.toList==y.On.toList)&&(((x.At.CB==y.At.CB)&&((x.At.CG==y.At.CG)&&((x.At.CQ==y.At.CQ)&&true)))&&true)))
def zFD(q:I.length<=1000)(x:zY):vH I x=some (I.any (RD x)):=by
 unfold vH sF;cases m:I.any (RD x)
 ·refine yL (a:=-1) ?_ O
  refine xM (λi=>(i:Int)) I.length (.inr ()) O (λi c=>?_) ?_ O
  ·have:=RV.1 m _ (DJ c)
   rw[BK (by omega:(i:Int)<(I.length:Int)),BD,yN c,AA];show(bif RD x I[i]then _ else _)=_;rw[yI (by simpa using this),zV c (by omega)]
  ·rw[BV (by omega:¬(I.length:Int)<(I.length:Int))];rfl
 ·
  have f:∃k,∃h:k<I.length,RD x I[k]=true/\∀j,(g:j<k)->RD x (I[j]'(by omega))=false:=by
   have n:∃k,∃h:k<I.length,RD x I[k]=true:=by obtain⟨y,hy,d⟩:=JH.1 m;obtain⟨k,e,o⟩:=IZ.1 hy;exact⟨k,e,by rw[o];exact d⟩
   obtain⟨k,e,d⟩:=n;induction k using Nat.strongRecOn with
   |ind k p=>
    by_cases b:∀j,(g:j<k)->RD x (I[j]'(by omega))=false
    ·exact⟨k,e,d,b⟩
    ·simp only[Classical.not_forall]at b
     obtain⟨j,g,l⟩:=b;exact p j g (by omega) (by simpa using l)
  obtain⟨k,e,d,l⟩:=f;refine yL (a:=(k:Int)) ?_ (by rw[BK (by omega:(k:Int)>=0)]);refine yL (a:=.inl (k:Int)) ?_ O;refine rF (λi=>(i:Int)) k (λi c=>?_) ?_
  ·rw[BK (by omega:(i:Int)<(I.length:Int)),BD,yN (by omega:i<I.length),AA]
   show(bif RD x I[i]then _ else _)=_;rw[l i c,BB,zV c (by omega)]
  ·rw[BK (by omega:(k:Int)<(I.length:Int)),BD,yN e,AA]
   show(bif RD x I[k]then _ else _)=_;rw[d,BD]
def oG(l:List ByteArray):Prop:=l.Pairwise (·≠·)
def fS(h:oG Z){i j:Nat}(b:i<Z.length)(c:j<Z.length)(d:Z[i]=Z[j]):i=j:=by
 have hp:=TS.1 h;rcases Nat.lt_trichotomy i j with a|a|a
 ·exact absurd d (hp i j b c a)
 ·exact a
 ·exact absurd d.symm (hp j i c b a)
def zDY(h:eZ Z=true):oG Z:=TS.2 λi j a b c=>zQV h a b (by omega)
def zYy{nx:List zR}(r:nx.length<=1000)(n:oG (nx.map (·.Name)))(x:zO):(∃k,∃h:k<nx.length,nx[k].Name=x.Name/\yS nx x=some (k:Int))\/((∀c∈nx,c.Name≠x.Name)/\yS nx x=some (-1)):=by
 have b:∀i,(h:i<nx.length)->rJ nx[i] x=some (decide (nx[i].Name=x.Name)):=λi h=>by unfold rJ;rw[gV]
 by_cases d:∃k,∃h:k<nx.length,nx[k].Name=x.Name
 ·obtain⟨k,l,e⟩:=d
  refine .inl ⟨k,l,e,?_⟩;unfold yS;refine yL (a:=.inl (k:Int)) ?_ O;refine rF (λi=>(i:Int)) k (λi f=>?_) ?_
  ·have m:nx[i].Name≠x.Name:=λo=>by have:=fS n (i:=i) (j:=k) (by rw[FQ];omega) (by rw[FQ];omega) (by rw[IE,IE,o,e]);omega
   rw[BK (by omega:(i:Int)<(nx.length:Int)),BD,yN (by omega:i<nx.length),AA,b,AA,BV m,BB,zV f (by omega)]
  ·rw[BK (by omega:(k:Int)<(nx.length:Int)),BD,yN l,AA,b,AA,BK e,BD]
 ·have g:∀c∈nx,c.Name≠x.Name:=λc p e=>by obtain⟨k,l,q⟩:=IZ.1 p;exact d ⟨k,l,by rw[q];exact e⟩
  refine .inr ⟨g,?_⟩;unfold yS;refine xM (λi=>(i:Int)) nx.length (.inr ()) O (λi f=>?_) ?_ O
  ·rw[BK (by omega:(i:Int)<(nx.length:Int)),BD,yN f,AA,b,AA,BV (g _ (DJ f)),BB,zV f (by omega)]
  ·rw[BV (by omega:¬(nx.length:Int)<(nx.length:Int))];rfl
def Fb(l:List zO)(n:ByteArray)(v:zS):zS:=match l.find? (λx=>decide (x.Name=n))with
 |some x=>x.Version|none=>v
def pF(a:List zR)(l:List zO):List zR:=a.map λc=>⟨c.Name,Fb l c.Name c.Version⟩
def Iq(a:List zR)(n:ByteArray):Bool:=a.any λc=>decide (c.Name=n)
@[simp] def Ue(a:List zR)(l:List zO):(pF a l).length=a.length:=by simp[pF]
variable{C:List zR}
def zHJ(l:List zO)(a:h<C.length):(pF C l)[h]'(by simpa using a)=⟨C[h].Name,Fb l C[h].Name C[h].Version⟩:=by simp[pF]
def zEI(a:List zR)(l:List zO):(pF a l).map (·.Name)=a.map (·.Name):=by simp[pF,MH,RU]
def zOb(a:List zR):pF a []=a:=by unfold pF Fb;simp
variable{T:List zO}
def zNh(e:oG (C.map (·.Name)))(f:∀y∈T,y.Name≠P.Name)(k:h<C.length)(c:C[h].Name=P.Name):(pF C T).set h ⟨P.Name,P.Version⟩=pF C (T++[P]):=by
 apply LZ (by simp);intro j l g;have d:j<C.length:=by simpa using g
 rw[List.getElem_set,zHJ T d,zHJ (T++[P]) d];by_cases a:h=j
 ·subst a
  rw[AQ O,c];unfold Fb;rw[XU,List.find?_eq_none.2 λy hy=>by simpa using f y hy];simp
 ·rw[AP a]
  have b:P.Name≠C[j].Name:=λi=>a (fS e (by rw[FQ];omega) (by rw[FQ];omega) (by rw[IE,IE,c,i]))
  unfold Fb;rw[XU];cases m:T.find? (λy=>decide (y.Name=C[j].Name))with
  |none=>simp[b]|some y=>simp
def dV(a:List zR)(N:List zY)(B:yM):xH×Int:=
 if(B.BA.all λx=>Iq a x.Name)=true then if(B.Needs.all λx=>N.any (RD x))=true then(⟨a,pF a B.BA,N⟩,0)else(⟨[],[],[]⟩,42)else(⟨[],[],[]⟩,8)
def zZz{a:zD}(N:a.devices.length<=8)(C:oG ((wY a.devices).map (·.Name)))(P:a.needs.length<=16)(R:Q.BA.length<=8)(F:Q.Needs.length<=16)(d:oG (Q.BA.map (·.Name))):pE a Q=some (dV (wY a.devices) a.needs Q):=by
 unfold pE dV;rw[zZN (by omega),AA,AA,zKF (by omega),AA];generalize G:wY a.devices=now at*;have H:now.length<=8:=by rw[<-G];simp[wY];omega
 have s:∀(m:Int×List zR->Option (wZ (Int×List zR) ((xH×Int)⊕List zR))),
   (∀g,m g=bif decide (g.1<(Q.BA.length:Int))then bnd (CO Q.BA g.1) λD=>bnd (yS g.2 D) λt=>bif decide (t<0)then some (.done (.inl ((⟨[],[],[]⟩:xH),8)))else(bnd (CO g.2 t) λI=>bnd (uF g.2 t (⟨I.Name,D.Version⟩:zR)) λJ=>some (.next (wrap .i64 (g.1+1),J)))else some (.done (.inr g.2)))->
   zZ m (0,now)=some (if(Q.BA.all λx=>Iq now x.Name)=true then .inr (pF now Q.BA)else .inl (⟨[],[],[]⟩,8)):=by
  intro m u
  have key:∀(r i:Nat),i+r=Q.BA.length->((Q.BA.take i).all λx=>Iq now x.Name)=true->zZ m ((i:Int),pF now (Q.BA.take i))=some (if(Q.BA.all λx=>Iq now x.Name)=true then .inr (pF now Q.BA)else .inl (⟨[],[],[]⟩,8)):=by
   intro r;induction r with
   |zero=>
    intro i v b;rw[IU (by omega)]at b⊢;rw[AQ b];refine yV ?_;rw[u];simp only;rw[BV (by omega:¬(i:Int)<(Q.BA.length:Int)),BB]
   |succ r K=>
    intro i v b;have e:i<Q.BA.length:=by omega
    have E:Q.BA.take (i+1)=Q.BA.take i++[Q.BA[i]]:=xA e;rcases zYy (nx:=pF now (Q.BA.take i)) (by simp;omega) (by rw[zEI];exact C) Q.BA[i]with⟨k,h,h1,l⟩|⟨h1,l⟩
    ·have n:k<now.length:=by simpa using h
     have o:now[k].Name=Q.BA[i].Name:=by rw[<-h1];simp[pF]
     refine xV (s':=(((i+1:Nat):Int),pF now (Q.BA.take (i+1)))) ?_ (K (i+1) (by omega) ?_)
     ·rw[u]
      simp only;rw[BK (by omega:(i:Int)<(Q.BA.length:Int)),BD,yN e,AA,l,AA,BV (by omega:¬(k:Int)<0),BB,yN h,AA,uS h,AA,zV e (by omega),h1,zNh C (λy hy p=>?_) n o,E];obtain⟨j,L,q⟩:=IZ.1 hy;rw[DV]at L;rw[RX]at q;have:=fS d (i:=j) (j:=i) (by rw[FQ];omega) (by rw[FQ];omega) (by rw[IE,IE,q,p]);omega
     ·rw[E,List.all_append,b,GL]
      simp only[YT,List.all_nil,Bool.and_true];exact JH.2 ⟨now[k],DJ n,BK o⟩
    ·rw[AP]
     ·refine yV ?_
      rw[u];simp only;rw[BK (by omega:(i:Int)<(Q.BA.length:Int)),BD,yN e,AA,l,AA];rfl
     ·intro w
      have:=List.all_eq_true.1 w _ (DJ e);obtain⟨c,M,z⟩:=JH.1 this;obtain⟨k,h,p⟩:=IZ.1 M;refine h1 ((pF now (Q.BA.take i))[k]'(by simpa using h)) (DJ _) ?_;simp only[pF,IE,p];exact OJ z
  have:=key Q.BA.length 0 (by omega) O;rw[SI,zOb]at this;exact this
 refine yL (s _ (λ_=>O)) ?_;by_cases b:(Q.BA.all λx=>Iq now x.Name)=true
 ·rw[AQ b,AQ b,FD]
  by_cases f:(Q.Needs.all λx=>a.needs.any (RD x))=true
  ·rw[AQ f]
   refine xM (λi=>(i:Int)) Q.Needs.length (.inr ()) O (λi d=>?_) ?_ O
   ·rw[BK (by omega:(i:Int)<(Q.Needs.length:Int)),BD,yN d,AA,zFD (by omega),AA,List.all_eq_true.1 f _ (DJ d),EG,BB,zV d (by omega)]
   ·rw[BV (by omega:¬(Q.Needs.length:Int)<(Q.Needs.length:Int))];rfl
  ·rw[AP f]
   refine uA (λi=>(i:Int)) Q.Needs.length (λi=>match Q.Needs[i]?with|some x=>!a.needs.any (RD x)|none=>false) (.inl (⟨[],[],[]⟩,42)) (.inr ()) O (λi d=>?_) ?_ ?_
   ·rw[BK (by omega:(i:Int)<(Q.Needs.length:Int)),BD,yN d,AA,zFD (by omega),AA,CJ d,zV d (by omega)]
    show(bif !a.needs.any (RD Q.Needs[i])then _ else _)=some (bif !a.needs.any (RD Q.Needs[i])then _ else _);cases a.needs.any (RD Q.Needs[i])<;>rfl
   ·rw[BV (by omega:¬(Q.Needs.length:Int)<(Q.Needs.length:Int))];rfl
   ·have:((List.range Q.Needs.length).any λi=>match Q.Needs[i]?with|some x=>!a.needs.any (RD x)|none=>false)=true:=by
     refine JH.2 ?_
     have l:∃x∈Q.Needs,¬(a.needs.any (RD x))=true:=by refine PS λw=>f (List.all_eq_true.2 λx A=>PS λB=>w ⟨x,A,B⟩)
     obtain⟨x,A,B⟩:=l;obtain⟨i,d,p⟩:=IZ.1 A;refine⟨i,by simpa using d,?_⟩;rw[CJ d,p];simpa using B
    rw[this,BD];rfl
 ·rw[AP b,AP b]
  rfl
def Ir(d:zA)(x:zO):zA:=⟨d.Name,cN d.Slots (1-d.Running) ⟨x,WI x⟩,d.Active,d.Running,d.CX⟩
def zNR(a:sW yJ)(k:Int)(y z:yJ):cN (cN a k y) k z=cN a k z:=by unfold cN;split<;>rfl
def zRp(h:vU P=true)(a:P.Name=y):qK ⟨P,WI P⟩ y=true:=by unfold qK Gl;simp[h,a]
def zBg(h:vU P=true):small P:=by have:=(jW h).2.2.2;unfold small;omega
def zWo(h:zq R)(a:vU P=true)(c:P.Name=R.Name):Two (Ir R P):=by have b:=zPi (n:=R.Name) ⟨h.vd,O,h.sm⟩ h.run h.tr (y:=⟨P,WI P⟩) (zBg a);refine⟨⟨b.vd,b.sm,h.run,h.tr⟩,?_⟩;show qK (pC (cN R.Slots (1-R.Running) ⟨P,WI P⟩) (1-R.Active)) R.Name=true;rw[h.run,V7];exact zRp a c
def zXK(h:zq R)(d:vU P=true)(j:P.Name=R.Name):∃e f,Oq R=(e,0)/\Ot e P (P.Data.length:Int)=(f,0)/\Ou f (WI P)=(Ir R P,0)/\vQ e/\vQ f:=by
 have a:Inv R R.Name:=⟨h.vd,O,h.sm⟩;have g:=zBg d
 have k:Oq R=(⟨R.Name,cN R.Slots (1-R.Running) dS,R.Active,R.Running,R.CX⟩,0):=by unfold Oq;rw[W9 h.vd h.run h.tr];rfl
 have b:Inv ⟨R.Name,cN R.Slots (1-R.Running) dS,R.Active,R.Running,R.CX⟩ R.Name:=zPi a h.run h.tr zLs
 have l:Ot ⟨R.Name,cN R.Slots (1-R.Running) dS,R.Active,R.Running,R.CX⟩ P (P.Data.length:Int)=(⟨R.Name,cN R.Slots (1-R.Running) ⟨P,0⟩,R.Active,R.Running,R.CX⟩,0):=by
  unfold Ot;rw[W9 b.vd h.run h.tr]
  have i:dK ⟨R.Name,cN R.Slots (1-R.Running) dS,R.Active,R.Running,R.CX⟩ P (P.Data.length:Int)=true:=by unfold dK;simp[d,j]
  rw[i];simp only[JR,BB,BD,zNR,JG,GU]
 have c:Inv ⟨R.Name,cN R.Slots (1-R.Running) ⟨P,0⟩,R.Active,R.Running,R.CX⟩ R.Name:=zPi a h.run h.tr (y:=⟨P,0⟩) g
 have m:Ou ⟨R.Name,cN R.Slots (1-R.Running) ⟨P,0⟩,R.Active,R.Running,R.CX⟩ (WI P)=(Ir R P,0):=by unfold Ou;rw[W9 c.vd h.run h.tr];simp only[JR,BB,V7,zNR];rw[zRp d j,BD];rfl
 exact⟨_,_,k,l,m,b.sm,c.sm⟩
variable{K:zD}
def zYT(c:K.devices[h]?=some R)(b:zq R)(d:vU P=true)(e:P.Name=R.Name):qA K (h:Int) P=some (⟨K.store,K.devices.set h (Ir R P),K.needs,K.phase,K.load,K.before,K.order⟩,0):=by have a:=(FT.1 c).1;obtain⟨l,m,f,g,i,j,k⟩:=zXK b d e;unfold qA;rw[IA,c,AA,zSN b.sm,AA,f];simp only[JR,BB,AA];rw[uS a,AA,zSA j (zBg d),AA,g];simp only[JR,BB];rw[zRO,AA,zQu k,AA,i];simp only[JR,BB];rw[IA,RN a,AA,uS (by simpa using a),AA,UR]
def Gq(l:List zO)(n:ByteArray):Option zO:=l.find? λx=>decide (x.Name=n)
def zZB(l:List zO)(n:ByteArray)(v:zS):Fb l n v=match Gq l n with|some x=>x.Version|none=>v:=rfl
def zLG(e:oG (T.map (·.Name)))(h:Gq T y=some P):∃k,∃a:k<T.length,T[k]=P/\P.Name=y/\Ub T y=(k:Int):=by
 unfold Gq at h;have b:P.Name=y:=by simpa using List.find?_some h
 obtain⟨k,a,c⟩:=IZ.1 (WT h);refine⟨k,a,c,b,?_⟩;unfold Ub;rw[zRC (i:=k) (v:=(k:Int)) a (by rw[CJ a,c,DR,b,AQ O]) (λj f=>?_)];rw[CJ (by omega),DR,AP];intro d;injection d with d;have:=fS e (i:=j) (j:=k) (by rw[FQ];omega) (by rw[FQ];omega) (by rw[IE,IE,d,c,b]);omega
def Ba(l:List zO)(d:zA):zA:=match Gq l d.Name with|some x=>Ir d x|none=>d
def ZX(L:List zA)(l:List zO)(S:List Nat)(j:Nat):List zA:=L.mapIdx λi d=>if i∈S.take j then Ba l d else d
@[simp] def Iu(L:List zA)(l:List zO)(S:List Nat)(j:Nat):(ZX L l S j).length=L.length:=by simp[ZX]
def Zg(L:List zA)(l:List zO)(S:List Nat)(j i:Nat):(ZX L l S j)[i]?=L[i]?.map λd=>if i∈S.take j then Ba l d else d:=by simp[ZX,XG]
def zYv(L:List zA)(l:List zO)(S:List Nat):ZX L l S 0=L:=by apply FW;intro i;rw[Zg];simp
def zXb(a:A.Nodup)(d:h<A.length)(e:G[A[h]]?=some R):(ZX G T A h).set A[h] (Ba T R)=ZX G T A (h+1):=by
 apply FW;intro i;rw[KR,Zg,Zg,Iu];have b:A[h]<G.length:=(FT.1 e).1;have f:A.take (h+1)=A.take h++[A[h]]:=xA d;by_cases c:A[h]=i
 ·subst c
  rw[AQ O,AQ b,e,DR,AQ ((wT a d _).2 (by omega))]
 ·rw[AP c]
  have:(i∈A.take (h+1))↔i∈A.take h:=by
   rw[f,DW,FI];constructor
   ·rintro(a|a)
    ·exact a
    ·exact absurd a.symm c
   ·exact .inl
  simp only[this]
def Iw(a:zD)(L:List zA):zD:=⟨a.store,L,a.needs,a.phase,a.load,a.before,a.order⟩
def zVz{a:zD}{B:yM}(H:B.BA.length<=8)(s:oG (B.BA.map (·.Name)))(u:∀x∈B.BA,vU x=true)(j:A.Nodup)(I:A.length<=1000)(v:∀k∈A,∃d x,a.devices[k]?=some d/\zq d/\Gq B.BA d.Name=some x)(h:zD->Int->(zD×zE×zB×Int))(m:zD×Int->Option (wZ (zD×Int) ((zD×zE×zB×Int)⊕zD)))(l:∀b,m b=bif decide (b.2<((iz A).length:Int))then bnd (CO (iz A) b.2) λn=>bnd (CO b.1.devices n) λw=>bnd (gM B w.Name) λy=>bnd (CO B.BA y) λz=>bnd (qA b.1 n z) λg=>bif(g.2 !=0)then some (.done (.inl (h g.1 g.2)))else(some (.next (g.1,wrap .i64 (b.2+1))))else some (.done (.inr b.1))):zZ m (a,0)=some (.inr (Iw a (ZX a.devices B.BA A A.length))):=by
 have C:a=Iw a (ZX a.devices B.BA A 0):=by rw[zYv];rfl
 have:=rF (m:=m) (t:=.inr (Iw a (ZX a.devices B.BA A A.length))) (λi=>(Iw a (ZX a.devices B.BA A i),(i:Int))) A.length (λi c=>?_) ?_
 ·rw[<-C]at this;exact this
 ·rw[l]
  simp only;obtain⟨d,x,o,D,p⟩:=v _ (DJ c);obtain⟨k,e,q,E,F⟩:=zLG s p
  have r:(Iw a (ZX a.devices B.BA A i)).devices[A[i]]?=some d:=by show(ZX a.devices B.BA A i)[A[i]]?=_;rw[Zg,o,DR,AP (λG=>absurd ((wT j c i).1 G) (by omega))]
  rw[ES,BK (by omega:(i:Int)<(A.length:Int)),BD,iV c,AA,IA,r,AA,zVO B d.Name (by omega),AA,F,yN e,AA,q,zYT r D (u x (by rw[<-q];exact DJ e)) E,AA,zV c (by omega)]
  have f:(ZX a.devices B.BA A i).set A[i] (Ir d x)=ZX a.devices B.BA A (i+1):=by rw[<-zXb j c o];unfold Ba;rw[p]
  show some (wZ.next (Iw a ((ZX a.devices B.BA A i).set A[i] (Ir d x)),((i+1:Nat):Int)))=_;rw[f]
 ·rw[l]
  simp only;rw[ES,BV (by omega:¬(A.length:Int)<(A.length:Int)),BB]
def fO(L:List zA)(n:Nat):Nat:=mask n λi=>match L[i]?with|some d=>d.Active==1|none=>false
def zZP{L:List zA}(l:L.length<=8)(h:∀d∈L,bit d.Active)(m:Int×Int->Option (wZ (Int×Int) Int))(g:∀b,m b=bif decide (b.1<(L.length:Int))then bnd (CO L b.1) λj=>bnd (cK .u8 (wrap .u8 j.Active) b.1) λk=>some (.next (wrap .i64 (b.1+1),GR .u8 b.2 k))else some (.done b.2)):zZ m (0,0)=some ((fO L L.length:Nat):Int):=by
 refine rF (m:=m) (λi=>((i:Int),((fO L i:Nat):Int))) L.length (λi c=>?_) ?_
 ·rw[g]
  simp only;rw[BK (by omega:(i:Int)<(L.length:Int)),BD,yN c,AA]
  have hp:2^i<=128:=by have:2^i<=2^7:=OM (by omega) (by omega);omega
  have e:fO L i<256:=Ic (by omega)
  have a:fO L (i+1)=if L[i].Active=1 then fO L i|||2^i else fO L i:=by unfold fO;rw[Xp,CJ c];simp
  rcases h _ (DJ c)with f|f
  ·rw[f,show wrap .u8 0=((0:Nat):Int)from by decide,zUt (by omega) (by omega),AA,SL,Rw e (by decide),zV c (by omega),a,f]
   simp
  ·rw[f,show wrap .u8 1=((1:Nat):Int)from by decide,zUt (by omega) (by omega),AA,QG,Rw e (by omega),zV c (by omega),a,f]
   simp
 ·rw[g]
  simp only;rw[BV (by omega:¬(L.length:Int)<(L.length:Int)),BB]
def zLl{F:Nat}{G:Nat->Bool}:∀{l:List Nat} {S:Nat},Kq F G S l->l.Nodup/\∀i∈l,S.testBit i=false
 |[],_,_=>⟨UL,λi a=>by cases a⟩|j::l,S,h=>by
  obtain⟨c,d⟩:=h;obtain⟨k,e,m⟩:=jS c;obtain⟨f,b⟩:=zLl d;refine⟨KT.2 ⟨λg=>?_,f⟩,λi a=>?_⟩
  ·have:=b j g
   rw[X4]at this;simp at this
  ·rcases EC.1 a with rfl|a
   ·exact e
   ·have:=b i a
    rw[X4]at this;exact(XC.1 this).1
def zRm(a:tG Q=0)(b:h+1<Q.BA.length):Op.bytesLess Q.BA[h].Name.toList Q.BA[h+1].Name.toList=true:=by
 have d:=Ez a;unfold tG at a;split at a
 ·cases a
 ·split at a
  ·rename_i e c
   exfalso
   obtain⟨h,_,b⟩:=VB c;unfold dX at b;subst a;split at b
   ·cases b
   ·split at b
    ·cases b
    ·split at b
     ·cases b
     ·cases b
  ·rename_i c
   have:=RJ.1 c (h+1) (JS.2 b);unfold dX at this;rw[CJ b]at this;simp only[PZ]at this;rw[CJ (by omega)]at this;rw[AP (by rw[d.2.2.1 _ (DJ b)];simp)]at this;simp only[DR,GK]at this;cases f:Op.bytesLess Q.BA[h].Name.toList Q.BA[h+1].Name.toList
   ·simp[f]at this
   ·rfl
def gP(h:tG Q=0):oG (Q.BA.map (·.Name)):=by
 have d:∀(j:Nat) (a:j<Q.BA.length) (i:Nat) (b:i<j),Op.bytesLess (Q.BA[i]'(Nat.lt_trans b a)).Name.toList Q.BA[j].Name.toList=true:=by
  intro j;induction j with
  |zero=>intro _ i b;omega
  |succ j f=>
   intro a i b;by_cases c:i=j
   ·subst c;exact zRm h a
   ·exact zIf _ _ _ (f (by omega) i (by omega)) (zRm h a)
 refine TS.2 λi j b a e c=>?_
 rw[IE,IE]at c;have:=d j (by simpa using a) i e;rw[c,zDe]at this;cases this
def zOp(h:(qP A).2=0):tG (qP A).1=0:=by
 unfold qP at h⊢;split
 ·rename_i b;rw[AQ b]at h;cases h
 ·rename_i b
  rw[AP b]at h;split
  ·rename_i c;rw[AQ c]at h;cases h
  ·rename_i c
   rw[AP c]at h;split
   ·rename_i d;rw[AQ d]at h;cases h
   ·rename_i d
    rw[AP d]at h;generalize A.take (A.length-4)=q at*;unfold zUc at h⊢;split
    ·rename_i e;rw[AQ e]at h;cases h
    ·rename_i e
     rw[AP e]at h;cases hp:zPt q with
     |none=>rw[hp]at h;cases h|some x=>
      rw[hp]at h;obtain⟨l,f,j⟩:=x;simp only at h⊢;split
      ·rename_i g;rw[AQ g]at h;cases h
      ·rename_i g
       rw[AP g]at h;split
       ·rename_i i;rw[AQ i]at h;cases h
       ·rename_i i
        rw[AP i]at h;split
        ·rename_i a;rw[AQ a]at h;exact absurd h a
        ·rename_i a;exact PS λk=>a k
def zLo(L:List zA):(wY L).map (·.Name)=L.map (·.Name):=by simp[wY,MH,RU]
def zYu(a:aK ⟨wY G,pF (wY G) T,I⟩ h=true):∃d x,G[h]?=some d/\Gq T d.Name=some x:=by
 unfold aK at a;simp only at a;by_cases b:h<G.length
 ·have c:(wY G)[h]?=some ⟨G[h].Name,qW G[h]⟩:=by rw[wY,IJ,CJ b];rfl
  have f:(pF (wY G) T)[h]?=some ⟨G[h].Name,Fb T G[h].Name (qW G[h])⟩:=by rw[pF,IJ,c];rfl
  rw[c,f]at a;simp only[zZB]at a;cases e:Gq T G[h].Name with
  |none=>rw[e]at a;simp at a|some x=>exact⟨G[h],x,CJ b,e⟩
 ·rw[MP (by simp[wY];omega)]at a
  cases a
def uT(a:zD)(B:yM):xH:=⟨wY a.devices,pF (wY a.devices) B.BA,a.needs⟩
def zHr(h:(dV C I Q).2=0):dV C I Q=(⟨C,pF C Q.BA,I⟩,0):=by
 unfold dV at h⊢;split
 ·rename_i a
  rw[AQ a]at h;split
  ·rfl
  ·rename_i b;rw[AP b]at h;cases h
 ·rename_i a;rw[AP a]at h;cases h
def zWa(a:List zR)(N:List zY)(B:yM):(dV a N B).2=0\/(dV a N B).2=8\/(dV a N B).2=42:=by
 unfold dV;split
 ·split
  ·exact .inl O
  ·exact .inr (.inr O)
 ·exact .inr (.inl O)
def oR(a:zD)(B:yM):List zA:=ZX a.devices B.BA (wH (wY a.devices).length (yD (uT a B))) (wH (wY a.devices).length (yD (uT a B))).length
def zQW(n F:Nat):(wH n F).Nodup:=List.Pairwise.filter _ List.nodup_range
variable{U:Nat}
def zNZ:U∈wH h E↔U<h/\E.testBit U=true:=by unfold wH;rw[KH,JS]
def Zi(a:zD)(B:yM)(i:Nat):(oR a B)[i]?=a.devices[i]?.map λd=>if(yD (uT a B)).testBit i=true then Ba B.BA d else d:=by
 unfold oR;rw[Zg,GU];cases h:a.devices[i]?with
 |none=>rfl|some d=>
  have b:=(FT.1 h).1
  have:(i∈wH (wY a.devices).length (yD (uT a B)))↔(yD (uT a B)).testBit i=true:=by rw[zNZ];simp[wY,b]
  simp only[DR,this]
@[simp] def OZ(a:zD)(B:yM):(oR a B).length=a.devices.length:=by simp[oR]
def zJG(h:DL K.devices)(e:tG Q=0){i:Nat}(a:(yD (uT K Q)).testBit i=true):∃d x,K.devices[i]?=some d/\Gq Q.BA d.Name=some x/\x∈Q.BA/\x.Name=d.Name/\(oR K Q)[i]?=some (Ir d x)/\Two (Ir d x):=by
 rw[X8]at a;obtain⟨n,j⟩:=JV.1 a;obtain⟨d,x,b,c⟩:=zYu j;obtain⟨k,l,m,f,_⟩:=zLG (gP e) c;have g:x∈Q.BA:=by rw[<-m];exact DJ l
 refine⟨d,x,b,c,g,f,?_,zWo (h.je _ (MQ b)) ((Ez e).2.2.1 x g) f⟩;rw[Zi,b,DR,X8,a,AQ O];unfold Ba;rw[c]
def zJO(c:DL K.devices)(g:tG Q=0):∀d∈oR K Q,zq d:=by
 intro d h;obtain⟨i,j,k⟩:=IZ.1 h;have b:(oR K Q)[i]?=some d:=by rw[CJ j,k]
 by_cases e:(yD (uT K Q)).testBit i=true
 ·obtain⟨_,_,_,_,_,_,a,l⟩:=zJG c g e
  rw[b]at a;injection a with a;rw[a];exact l.1
 ·rw[Zi]at b
  obtain⟨d0,m,f⟩:=LP.1 b;rw[AP e]at f;rw[<-f];exact c.je _ (MQ m)
def zTS(b:DL K.devices)(c:tG Q=0)(hp:uY (uT K Q)=0)(k:Eu (uT K Q)=some A):nN (oR K Q) A (fO (oR K Q) (oR K Q).length):=by
 have e:=zLF k;have g:=b.le;refine⟨(zLl e).1,by rw[OZ];exact g,λi f=>?_,λi d h=>?_,Ic (by rw[OZ];exact g),zJO b c,zLP hp e⟩
 ·obtain⟨d,x,_,_,_,_,l,m⟩:=zJG b c (zND e i f)
  exact⟨_,l,m⟩
 ·have f:=(FT.1 h).1
  have a:=(zJO b c d (MQ h)).vd.ba;unfold fO;rw[zPQ,h,BK f,GL];rcases a with j|j<;>simp[j]
def zOS(n:DL K.devices)(j:K.store=true)(I:tH K.needs=true)(J:xJ A)(Y:A.length<=8192)(F:K.phase=1)(u:tA K.load=some true)(v:pW K.load=some (iz A,0))(s:zE)(d:zB):
  (∃e,e≠0/\xO K s d=some (K,s,d,e)/\
   ((qP A).2=e\/(qP A).2=0/\((dV (wY K.devices) K.needs (qP A).1).2=e/\(e=8\/e=42)\/(dV (wY K.devices) K.needs (qP A).1).2=0/\tU (uT K (qP A).1)=some ([],e))))\/
  ((qP A).2=0/\(dV (wY K.devices) K.needs (qP A).1).2=0/\uY (uT K (qP A).1)=0/\Eu (uT K (qP A).1)=some []/\
   xO K s d=some (⟨K.store,K.devices,K.needs,0,WM,K.before,K.order⟩,s,d,0))\/
  ((qP A).2=0/\(dV (wY K.devices) K.needs (qP A).1).2=0/\uY (uT K (qP A).1)=0/\∃c,Eu (uT K (qP A).1)=some c/\c≠[]/\
   xO K s d=bnd (yK s [⟨32,2::(fO (oR K (qP A).1) (oR K (qP A).1).length:Int)::iz c,false⟩] d) λr=>
    if r.2.2=0 then some (KG (oR K (qP A).1) K.needs c (fO (oR K (qP A).1) (oR K (qP A).1).length) 0 2,r.1,r.2.1,0)
    else some (⟨true,oR K (qP A).1,K.needs,1,K.load,(fO (oR K (qP A).1) (oR K (qP A).1).length:Int),iz c⟩,r.1,r.2.1,r.2.2)):=by
 have l:=n.le;have w:K.needs.length<=16:=OJ (JV.1 I).1;unfold xO
 have p:(bnd (bif(K.phase !=1)then some true else bnd (tA K.load) λM=>some (!M):Option Bool) λN=>some N)=some false:=by rw[F,u];rfl
 rw[Ru]at p;rw[p,AA,BB];show(∃e,e≠0/\(bnd (pW K.load) _)=_/\_)\/_;rw[v];simp only[AA,JR,BB];rw[zRN J (by omega)];simp only[AA];by_cases f:(qP A).2=0
 case neg=>
  refine .inl ⟨(qP A).2,f,?_,.inl O⟩;rw[yT (by simpa using f)]
 have o:=zOp f;rw[yI (by simpa using f)];generalize Z:(qP A).1=B at*;obtain⟨v1,G,P,Q,v5⟩:=Ez o;have y:pE K B=some (dV (wY K.devices) K.needs B):=zZz (a:=K) l (by show oG ((wY K.devices).map (·.Name));rw[zLo];exact zDY n.names) w G Q (gP o);rw[y,AA];by_cases hp:(dV (wY K.devices) K.needs B).2=0
 case neg=>
  refine .inl ⟨(dV (wY K.devices) K.needs B).2,hp,?_,.inr ⟨f,.inl ⟨O,?_⟩⟩⟩
  ·rw[yT (by simpa using hp)]
  ·rcases zWa (wY K.devices) K.needs B with h|h|h
   ·exact absurd h hp
   ·exact .inl h
   ·exact .inr h
 rw[yI (by simpa using hp),zHr hp];show(∃e,e≠0/\(bnd (tU (uT K B)) _)=_/\_)\/_;rw[show(⟨wY K.devices,pF (wY K.devices) B.BA,K.needs⟩:xH)=uT K B from O];rw[zPF];by_cases b:uY (uT K B)=0
 case neg=>
  rw[AP b];have q:((uY (uT K B):Nat):Int)≠0:=by omega
  refine .inl ⟨(uY (uT K B):Int),q,?_,.inr ⟨f,.inr ⟨O,O⟩⟩⟩;rw[AA,yT (by simpa using q)]
 rw[AQ b];cases R:Eu (uT K B)with
 |none=>
  refine .inl ⟨41,by decide,?_,.inr ⟨f,.inr ⟨rfl,rfl⟩⟩⟩;rw[AA];rfl
 |some c=>
  simp only[AA,JR,BB];by_cases m:c=[]
  ·subst m
   refine .inr (.inl ⟨f,trivial,b,O,?_⟩);rfl
  refine .inr (.inr ⟨f,trivial,b,c,O,m,?_⟩);have S:0<c.length:=OH.2 m;rw[yI (by simp;omega),zZc,AQ b,AA];have g:=zTS n o b R;have z:(uT K B).Now.length=(wY K.devices).length:=rfl;have T:(wH (wY K.devices).length (yD (uT K B))).length<=8:=JU (OL _ _) (by simp[wY];exact l);rw[z];refine yL (zVz (a:=K) (B:=B) G (gP o) P (zQW _ _) (by omega) (λk U=>?_) (λV e=>(V,s,d,e)) _ (λ_=>O)) ?_
  ·obtain⟨C,x,H,W,_⟩:=zJG n o (zNZ.1 U).2
   exact⟨C,x,H,n.je _ (MQ H),W⟩
  rw[FD];have D:Iw K (ZX K.devices B.BA (wH (wY K.devices).length (yD (uT K B))) (wH (wY K.devices).length (yD (uT K B))).length)=Iw K (oR K B):=rfl;rw[D];refine yL (zZP (L:=oR K B) (by rw[OZ];exact l) (λC E=>(zJO n o C E).vd.ba) _ (λ_=>O)) ?_;rw[show(2:Int)=((2:Nat):Int)from O,zKL (Od:=c) O g.len (λi X=>by have:=g.lt X;rw[OZ]at this;omega) (by decide),AA];show bnd (vZ K.store) _=_;rw[j,show vZ true=some true from O,AA,zYJ];show bnd (yK s [⟨32,2::(fO (oR K B) (oR K B).length:Int)::iz c,false⟩] d) _=_;cases yK s [⟨32,2::(fO (oR K B) (oR K B).length:Int)::iz c,false⟩] d with
  |none=>rfl|some r=>
   simp only[AA];by_cases t:r.2.2=0
   ·rw[AQ t,yI (by simpa using t)]
    unfold KG;rw[zGZ,<-j];rfl
   ·rw[AP t,yT (by simpa using t),show(Iw K (oR K B)).phase=1 from F,<-j]
    rfl
def yBz{b:List W}{y:W}(a:h<b.length):uF b (h:Int) y=some (b.set h y):=by unfold uF;rw[AQ ⟨by omega,by omega⟩];simp
def Iy(L:List zA)(i:Nat):Option Int:=match L[i]?with
 |none=>none|some d=>bif !qO d then some 1 else match L[i-1]?with
  |none=>none|some p=>bif decide (0<i)&&!Op.bytesLess p.Name.toList d.Name.toList then some 7 else none
def Fe(L:List zA):Option Int:=(List.range L.length).findSome? (Iy L)
def aD(L:List zA)(N:List zY):Int:=if L.length<1\/8<L.length then 2 else match Fe L with
 |some e=>e|none=>if tH N=true then 0 else 2
def zNv(h:Fe G=some J):J≠0:=by
 obtain⟨i,_,a⟩:=VB h;unfold Iy at a;split at a
 ·cases a
 ·rename_i d _
  cases b:qO d
  ·rw[b]at a;injection a with a;omega
  ·rw[b]at a
   simp only[EG,BB]at a;split at a
   ·cases a
   ·rename_i p _
    cases c:(decide (0<i)&&!Op.bytesLess p.Name.toList d.Name.toList)
    ·rw[c]at a;cases a
    ·rw[c]at a;injection a with a;omega
def zHV(h:Fe G=none):∀d∈G,VD d:=by
 intro d c;obtain⟨i,a,rfl⟩:=IZ.1 c;have:=RJ.1 h i (JS.2 a);unfold Iy at this;rw[CJ a]at this;simp only at this;cases b:qO G[i]
 ·rw[b]at this;cases this
 ·exact(rN _).1 b
def zSh{c:Type}{L:List zA}{m:Int->Option (wZ Int W)}{w:Int->W}{t:W}{k:W->Option c}{r:Option c}(j:L.length<=1048576)(d:∀i,(b:i<L.length)->m (i:Int)=some (match Iy L i with|some e=>.done (w e)|none=>.next (wrap .i64 ((i:Int)+1))))(f:m (L.length:Int)=some (.done t))(a:k (match Fe L with|some e=>w e|none=>t)=r):bnd (zZ m 0) k=r:=by
 refine rW (λi=>(i:Int)) L.length (λi=>(Iy L i).map w) t O (λi b=>?_) f ?_
 ·rw[d i b]
  cases Iy L i with
  |none=>simp only[Option.map_none,zV b (by omega)]|some e=>rfl
 ·have g:(List.range L.length).findSome? (λi=>(Iy L i).map w)=(Fe L).map w:=by unfold Fe;rw[List.map_findSome?];rfl
  rw[g];cases h:Fe L with
  |none=>rw[h]at a;exact a|some e=>rw[h]at a;exact a
def ar0(L:List zA)(N:List zY):zH:=⟨true,L,N,0,WM,0,[]⟩
def zTM(n:Nat):(bif decide ((n:Int)<1)then some true else some (decide ((n:Int)>8)):Option Bool)=some (decide (n<1\/8<n)):=by
 by_cases a:n<1
 ·rw[BK (by omega:(n:Int)<1),BD,BK (.inl a)]
 ·rw[BV (by omega:¬(n:Int)<1),BB]
  congr 1;exact QB.2 (by omega)
def zVp(h:aD G I=0):1<=G.length/\G.length<=8/\Fe G=none/\tH I=true:=by
 unfold aD at h;split at h
 ·cases h
 ·rename_i c
  cases a:Fe G with
  |some e=>rw[a]at h;exact absurd h (zNv a)|none=>
   rw[a]at h;simp only at h;split at h
   ·rename_i b;exact⟨by omega,by omega,O,b⟩
   ·cases h
def yAb(b:h≠0)(a:h<=1048576):wrap .i64 ((h:Int)-1)=((h-1:Nat):Int):=by rw[yF (by omega) (by omega)];omega
def zQL(l:G.length<=8)(a:h<G.length){V:zA->Option Bool}(f:∀d,V d=some (qO d)){C:zA->zA->Option Bool}(g:∀x y,C x y=some (!Op.bytesLess y.Name.toList x.Name.toList))(w:Int->W):(bnd (CO G (h:Int)) λb=>bnd (V b) λi=>bif !i then some (.done (w 1))else bnd (bif decide ((h:Int)>0)then bnd (CO G (wrap .i64 ((h:Int)-1))) λj=>C b j else some false:Option Bool) λk=>bif k then some (.done (w 7))else some (.next (wrap .i64 ((h:Int)+1))))=some (match Iy G h with|some e=>(.done (w e):wZ Int W)|none=>.next (wrap .i64 ((h:Int)+1))):=by
 rw[yN a,AA,f,AA];unfold Iy;rw[CJ a];simp only;cases qO G[h]
 ·rfl
 ·simp only[EG,BB]
  rw[CJ (show h-1<G.length by omega)];by_cases c:h=0
  ·subst c;rfl
  ·rw[BK (by omega:(h:Int)>0),BD,yAb c (by omega),yN (show h-1<G.length by omega),AA,g,AA,BK (by omega:0<h)]
   simp only[GL];cases Op.bytesLess G[h-1].Name.toList G[h].Name.toList<;>rfl
def zTN(h:vQ R):qV R=some R:=by unfold qV yG;have a:=h.1;have b:=h.2;unfold small at a b;rw[kY (by simp;omega),AA,AA,kY (by simp;omega),AA,AA];rfl
def zWP(a:VD R)(b:R.CX=true):VD (WL R):=by obtain⟨d,c⟩:=a.tr b;exact⟨a.ba,uD a.ba,a.ga,c,λh=>by cases h⟩
def zLW(a:VD R)(b:R.CX=false):dL R=sL R:=by unfold dL;rw[(rN R).2 a,BD,b,BB];rfl
def zMI(a:VD R)(b:R.CX=true):dL R=WL R:=by unfold dL;rw[(rN R).2 a,BD,b,BD];rfl
def zPe(a:R.Running=R.Active)(b:R.CX=false):sL R=R:=by obtain⟨nm,sl,c,d,e⟩:=R;simp only at a b;subst a;subst b;rfl
def zTb(c:VD R)(d:vQ R)(m:zA->Option (wZ zA zA))(f:∀b,m b=bnd (bif b.CX then some true else some (b.Running !=b.Active):Option Bool) λj=>bif j then bnd (mQ b) λk=>some (.next k)else some (.done b)):zZ m R=some (sL R):=by
 have h:∀e,vQ e->mQ e=some (dL e):=λe l=>Sr l
 have i:∀e:zA,VD e->vQ e->e.CX=false->zZ m e=some (sL e):=by
  intro e c d a;by_cases g:e.Running=e.Active
  ·refine yV ?_
   rw[f,a,BB,AA,yI (by simpa using g),zPe g a]
  ·refine xV (s':=sL e) ?_ (yV ?_)
   ·rw[f,a,BB,AA,yT (by simpa using g),h _ d,zLW c a,AA]
   ·rw[f]
    show bnd (bif false then _ else some ((sL e).Running !=(sL e).Active)) _=_;rw[BB,AA,yI (by simp[sL])]
 cases a:R.CX
 ·exact i R c d a
 ·refine xV (s':=WL R) ?_ (i (WL R) (zWP c a) d O)
  rw[f,a,BD,AA,BD,h _ d,zMI c a,AA]
def yAX(a:zD)(c:zE)(d:zB):Option (zE×zB×(Option zD)×Int):=
 bnd (vM c 32) λe=>bif !e.2 then some (c,d,(some a),0)else bnd (sV a e.1) λf=>bif !f.2 then some (c,d,none,6)else bnd (xP f.1 c d) λb=>bif(b.2.2.2 !=0)then some (b.2.1,b.2.2.1,none,b.2.2.2)else some (b.2.1,b.2.2.1,(some b.1),0)
def yAL(k:∀d∈G,vQ d)(N:List zY)(s:zE)(d:zB):sJ s G N d=if aD G N=0 then yAX (Zf (G.map sL) N) s d else some (s,d,none,aD G N):=by
 unfold sJ;rw[zTM,AA];by_cases c:G.length<1\/8<G.length
 ·have a:aD G N=2:=by unfold aD;rw[AQ c]
  rw[BK c,BD,a];rfl
 rw[BV c,BB];refine zSh (L:=G) (w:=λe=>.inl (s,d,none,e)) (t:=.inr ()) (by omega) (λi b=>?_) ?_ ?_
 ·rw[BK (by omega:(i:Int)<(G.length:Int)),BD]
  exact zQL (by omega) b fZ (C:=λx y=>some (Op.bytesLess x.Name.toList y.Name.toList||(x.Name.toList==y.Name.toList))) (λx y=>by rw[zGX]) (λe=>(.inl (s,d,none,e):(zE×zB×(Option zD)×Int)⊕Unit))
 ·rw[BV (by omega:¬(G.length:Int)<(G.length:Int)),BB]
 cases f:Fe G with
 |some e=>
  have a:aD G N=e:=by unfold aD;rw[AP c,f]
  rw[a,AP (zNv f)];rfl
 |none=>
  simp only[FD];rw[zIN];cases g:tH N
  ·have a:aD G N=2:=by unfold aD;rw[AP c,f,g];rfl
   rw[a];rfl
  have a:aD G N=0:=by unfold aD;rw[AP c,f,g];rfl
  rw[a,AQ O,AQ O,AA];simp only[JR,BB];have m:N.length<=16:=OJ (JV.1 g).1
  have h:xS N=some N:=by unfold xS;rw[wF (by simp;omega) (by simp;omega),AA];simp
  rw[h,AA];refine xM (λi=>((i:Int),(G.map sL).take i)) G.length (G.map sL) O (λi b=>?_) ?_ O
  ·simp only
   have n:=zHV f _ (DJ b);have j:=k _ (DJ b);rw[BK (by omega:(i:Int)<(G.length:Int)),BD,yN b,AA,zTN j,AA,zTb n j _ (λ_=>O),AA,wF (by simp;omega) (by simp;omega),AA,zV b (by omega),xA (l:=G.map sL) (by simpa using b)];simp
  ·simp only
   rw[BV (by omega:¬(G.length:Int)<(G.length:Int)),BB,IU (by simp)]
def yBC(N:List zY):cV G N=some (aD G N):=by
 unfold cV;rw[zTM,AA];by_cases b:G.length<1\/8<G.length
 ·have a:aD G N=2:=by unfold aD;rw[AQ b]
  rw[BK b,BD,a]
 rw[BV b,BB];refine zSh (L:=G) (w:=λe=>.inl e) (t:=.inr ()) (by omega) (λi f=>?_) ?_ ?_
 ·rw[BK (by omega:(i:Int)<(G.length:Int)),BD]
  exact zQL (by omega) f Xm (C:=λx y=>some (!(Op.bytesLess y.Name.toList x.Name.toList))) (λx y=>O) (λe=>(.inl e:Int⊕Unit))
 ·rw[BV (by omega:¬(G.length:Int)<(G.length:Int)),BB]
 cases c:Fe G with
 |some e=>
  have a:aD G N=e:=by unfold aD;rw[AP b,c]
  rw[a];rfl
 |none=>
  simp only[FD];rw[zNO,AA];cases d:tH N
  ·have a:aD G N=2:=by unfold aD;rw[AP b,c,d];rfl
   rw[a];rfl
  ·have a:aD G N=0:=by unfold aD;rw[AP b,c,d];rfl
   rw[a];rfl
def zCZ(c:G.length<=1000)(b:∀d∈G,vQ d):dJ G=some G:=by
 unfold dJ;refine xM (λi=>(G.take i,(i:Int))) G.length G O (λi a=>?_) ?_ O
 ·simp only
  rw[BK (by omega:(i:Int)<(G.length:Int)),BD,yN a,AA,Oo (b _ (DJ a)),AA,wF (by simp;omega) (by simp;omega),AA,zV a (by omega),xA a]
 ·simp only
  rw[BV (by omega:¬(G.length:Int)<(G.length:Int)),BB,GU]
def Bc(L:List zA)(i:Nat):List zA:=L.mapIdx λk d=>if k<i then sL d else d
def Zj(L:List zA)(i k:Nat):(Bc L i)[k]?=L[k]?.map λd=>if k<i then sL d else d:=by simp[Bc,XG]
def zVl(L:List zA):Bc L 0=L:=FW λk=>by rw[Zj];simp
def zWX(L:List zA):Bc L L.length=L.map sL:=FW λk=>by
 rw[Zj,IJ];cases h:L[k]?with
 |none=>rfl|some d=>
  have:=(FT.1 h).1;simp[this]
def zYc(b:h<G.length):(Bc G h).set h (sL G[h])=Bc G (h+1):=FW λk=>by
 rw[KR,Zj,Zj];have a:h<(Bc G h).length:=by simpa[Bc]using b
 by_cases c:h=k
 ·subst c
  rw[AQ O,AQ a,CJ b,DR,AQ (by omega)]
 ·rw[AP c]
  have:k<h+1↔k<h:=by omega
  simp only[this]
def zRy(n:h<G.length){d:zA}(q:G[h]?=some d)(i:VD d)(c:vQ d)(m:List zA->Option (wZ (List zA) (List zA)))(r:∀o,m o=bnd (bnd (CO o (h:Int)) λp=>bif p.CX then some (true,o)else some ((p.Running !=p.Active),o):Option (Bool×List zA)) λf=>bif f.1 then bnd (CO f.2 (h:Int)) λx=>bnd (CO f.2 (h:Int)) λt=>bnd (lS t) λu=>bnd (CO f.2 (h:Int)) λy=>bnd (uF f.2 (h:Int) u) λv=>some (.next v)else some (.done f.2)):zZ m G=some (G.set h (sL d)):=by
 have j:∀(Z:List zA) (e:zA),h<Z.length->Z[h]?=some e->(e.CX=true\/e.Running≠e.Active)->vQ e->m Z=some (.next (Z.set h (dL e))):=by
  intro Z e hz b g c;rw[r,IA,b,AA]
  have:(bif e.CX then some (true,Z)else some ((e.Running !=e.Active),Z):Option (Bool×List zA))=some (true,Z):=by
   cases a:e.CX
   ·rcases g with g|g
    ·rw[a]at g;cases g
    ·rw[BB,show(e.Running !=e.Active)=true by simpa using g]
   ·rfl
  rw[this,AA];simp only[BD];rw[IA,b,AA,AA,zLq c,AA,AA,yBz hz,AA]
 have k:∀(Z:List zA) (e:zA),Z[h]?=some e->e.CX=false->e.Running=e.Active->m Z=some (.done Z):=by intro Z e b a l;rw[r,IA,b,AA,a,BB,AA,show(e.Running !=e.Active)=false by simpa using l];rfl
 have s:∀(Z:List zA) (e:zA),h<Z.length->Z[h]?=some e->VD e->vQ e->e.CX=false->zZ m Z=some (Z.set h (sL e)):=by
  intro Z e hz b i c a;by_cases l:e.Running=e.Active
  ·rw[zPe l a]
   have:Z.set h e=Z:=by rw[CJ hz]at b;injection b with b;rw[<-b,List.set_getElem_self]
   rw[this];exact yV (k Z e b a l)
  ·refine xV (j Z e hz b (.inr l) c) (yV ?_)
   rw[zLW i a];exact k _ (sL e) (by rw[RN hz]) O O
 cases a:d.CX
 ·exact s G d n q i c a
 ·have w:sL d=sL (WL d):=rfl
  refine xV (j G d n q (.inl a) c) ?_;rw[zMI i a,s (G.set h (WL d)) (WL d) (by simpa using n) (by rw[RN n]) (zWP i a) c O,UR,w]
def yBa(a:zH)(c:zG)(d:yB):Option (zG×yB×(Option zH)×Int):=
 bnd (kU c 32) λe=>bif !e.2 then some (c,d,(some a),0)else bnd (rE a e.1) λf=>bif !f.2 then some (c,d,none,6)else bnd (vP f.1 c d) λb=>bif(b.2.2.2 !=0)then some (b.2.1,b.2.2.1,none,b.2.2.2)else some (b.2.1,b.2.2.1,(some b.1),0)
def yCk(e:∀d∈G,vQ d)(N:List zY)(s:zG)(f:yB):nP s G N f=if aD G N=0 then yBa (ar0 (G.map sL) N) s f else some (s,f,none,aD G N):=by
 unfold nP;rw[yBC,AA];by_cases c:aD G N=0
 case neg=>rw[AP c,yT (by simpa using c)]
 rw[AQ c,yI (by simpa using c)];obtain⟨k,l,g,h⟩:=zVp c;have j:N.length<=16:=OJ (JV.1 h).1;rw[zCZ (by omega) e,AA,wF (by simp;omega) (by simp;omega),AA];refine xM (λi=>((i:Int),Bc G i)) G.length (G.map sL) (by rw[zVl];rfl) (λi b=>?_) ?_ O
 ·simp only
  have a:(Bc G i).length=G.length:=by simp[Bc]
  rw[a,BK (by omega:(i:Int)<(G.length:Int)),BD];refine yL (zRy (by rw[a];exact b) (d:=G[i]) (by rw[Zj,CJ b];simp) (zHV g _ (DJ b)) (e _ (DJ b)) _ (λ_=>O)) ?_;rw[zYc b,zV b (by omega)]
 ·simp only
  have a:(Bc G G.length).length=G.length:=by simp[Bc]
  rw[a,BV (by omega:¬(G.length:Int)<(G.length:Int)),BB,zWX]
theorem zTJ(o:List W)(p:o.length<=10000)(q:W->Bool)(m:Int->Option (wZ Int (Int⊕Unit)))(g:∀i,(a:i<o.length)->m (i:Int)=some (bif q o[i]then .done (.inl (i:Int))else .next (wrap .i64 ((i:Int)+1))))(j:m (o.length:Int)=some (.done (.inr ()))):(bnd (bnd (zZ m 0) λd=>xX d λ_=>some (-1)) λk=>some (decide (k>=0)))=some (o.any q):=by
 have key:∀r,xX (((List.range o.length).findSome? (λ(i:Nat)=>match o[i]?with|some x=>bif q x then some (.inl (i:Int):Int⊕Unit)else none|none=>none)).getD (.inr ())) (λ_=>some (-1))=some r->(bnd (zZ m 0) λd=>xX d λ_=>some (-1))=some r:=λr h=>
  rW (λi=>(i:Int)) o.length (λ(i:Nat)=>match o[i]?with|some x=>bif q x then some (.inl (i:Int))else none|none=>none) (.inr ()) O (λi a=>by
   rw[g i a,CJ a];simp only;cases q o[i]
   ·simp only[BB,zV a (by omega:o.length<=140737488355328)]
   ·rfl) j h
 cases f:(List.range o.length).findSome? (λ(i:Nat)=>match o[i]?with|some x=>bif q x then some (.inl (i:Int):Int⊕Unit)else none|none=>none)with
 |none=>
  have l:=RJ.1 f
  have:o.any q=false:=by
   rw[RV];intro x n;obtain⟨i,a,rfl⟩:=IZ.1 n;have:=l i (JS.2 a)
   grind
  simp_all
 |some t=>
  obtain⟨i,a,c⟩:=VB f;have b:=JS.1 a;rw[CJ b]at c;cases e:q o[i]
  ·simp[e]at c
  ·simp[e]at c
   subst c;have:o.any q=true:=JH.2 ⟨_,DJ b,e⟩;simp_all
theorem zOG(b:F.length<=1000)(v:Int):uI F v=some (decide (v∈F)):=by
 refine(zTJ F (by omega) (λy=>v==y) _ (λi a=>?_) ?_).trans ?_
 ·rw[BK (by omega:(i:Int)<(F.length:Int)),BD,yN a,AA]
  cases(v==F[i])<;>rfl
 ·grind
 ·grind
def Cm(n:Nat):List Int->List Int->Option (List Int)
 |a,[]=>some a|a,x::b=>if(n:Int)<=x\/x∈a then none else Cm n (a++[x]) b
def Uf(n:Nat):List Int->Option (Int×Int×List Int)
 |p::m::r=>if p=2\/p=3 then(Cm n [] r).map λo=>(p,m,o)else none|_=>none
def zGB(n:Nat)(p m:Int)(r:List Int):Uf n (p::m::r)=if p=2\/p=3 then(Cm n [] r).map λo=>(p,m,o)else none:=rfl
def jA(h:0<=J/\J<=255):wrap .i64 J=J:=yF (by omega) (by omega)
theorem yCh{g:Type}{n:Nat}{r:List Int}(j:EW r)(q:r.length<=28){bad:List Int->g}(m:Int×List Int->Option (wZ (Int×List Int) (g⊕List Int)))
  (l:∀d,m d=bif decide (d.1<(r.length:Int))then bnd (CO r d.1) λe=>bnd (bif decide ((wrap .i64 e)>=(n:Int))then some true else bnd (uI d.2 (wrap .i64 e)) λf=>some f:Option Bool) λs=>bif s then some (.done (.inl (bad d.2)))else(bnd (app 8 d.2 [wrap .i64 e]) λu=>some (.next (wrap .i64 (d.1+1),u)))else some (.done (.inr d.2))):
  ∀(k i:Nat) (a:List Int),i+k=r.length->a.length<=i->∃t,zZ m ((i:Int),a)=some t/\match Cm n a (r.drop i)with|some o=>t=.inr o|none=>∃b,t=.inl (bad b)
 |0,i,a,v,w=>by
  obtain rfl:i=r.length:=by omega
  refine⟨.inr a,yV ?_,?_⟩
  ·grind
  ·rw[List.drop_length];rfl
 |k+1,i,a,v,w=>by
  have c:i<r.length:=by omega
  have p:=j _ (DJ c);rw[WU c];unfold Cm
  have x:(bif decide ((wrap .i64 r[i])>=(n:Int))then some true else bnd (uI a (wrap .i64 r[i])) λf=>some f:Option Bool)=some (decide ((n:Int)<=r[i]\/r[i]∈a)):=by
   rw[jA p,zOG (by omega),AA]
   grind
  by_cases h:(n:Int)<=r[i]\/r[i]∈a
  ·rw[AQ h]
   refine⟨.inl (bad a),yV ?_,a,O⟩;simp_all
  ·rw[AP h]
   obtain⟨t,y,z⟩:=yCh j q m l k (i+1) (a++[r[i]]) (by omega) (by simp;omega);refine⟨t,xV ?_ y,z⟩;rw[l];simp only;rw[BK (by omega:(i:Int)<(r.length:Int)),BD,yN c,AA,x,AA,BV h,BB,jA p,wF (by simp;omega) (by simp;omega),AA,zV c (by omega)]
theorem yCj(l:G.length<=8)(N:List zY)(d:EW F)(f:F.length<=28):∃a,sV (Zf G N) F=some (a,(Uf G.length F).isSome)/\∀p m o,Uf G.length F=some (p,m,o)->a=⟨true,G,N,p,WM,m,o⟩:=by
 match F,d,f with
 |[],_,_=>exact⟨_,O,λp m o h=>by cases h⟩|[p],_,_=>exact⟨_,O,λp m o h=>by cases h⟩|p::m::r,d,f=>
  have hp:=d p (by simp);unfold sV
  have k:sub (p::m::r) 2 ((p::m::r).length:Int)=some r:=by unfold sub;rw[AQ ⟨by omega,by simp;omega,by omega⟩];simp only[JG,GU];rfl
  rw[BV (by simp;omega:¬((p::m::r).length:Int)<2),BB,show CO (p::m::r) 0=some p from O,AA,show CO (p::m::r) 1=some m from O,AA,jA hp,k];rw[zGB];by_cases e:p=2\/p=3
  case neg=>
   rw[show(p==2||(p==3||false))=false by simpa using e,AP e];simp_all
  rw[show(p==2||(p==3||false))=true by simpa using e,AQ e];obtain⟨t,i,c⟩:=yCh (n:=G.length) (r:=r) (λy hy=>d y (by simp[hy])) (by simp at f;omega) (bad:=λg=>((⟨true,G,N,p,WM,m,g⟩:zD),false)) _ (λ_=>O) r.length 0 [] (by omega) (by simp);rw[NR]at c;cases j:Cm G.length [] r with
  |none=>
   rw[j]at c;obtain⟨b,rfl⟩:=c;exact⟨_,yL i O,λp m o h=>by cases h⟩
  |some o=>
   rw[j]at c;simp only at c;subst c;refine⟨_,yL i O,λq s u h=>?_⟩;obtain⟨rfl,rfl,rfl⟩:=h;rfl
theorem zVQ(v:Int):(List.range F.length).any (λk=>F[k]?==some v)=decide (v∈F):=by
 rw[FK,JH,FP];constructor
 ·grind
 ·intro h
  obtain⟨k,a,rfl⟩:=IZ.1 h;exact⟨k,JS.2 a,by rw[CJ a];simp⟩
theorem yCs{g:Type}{n:Nat}{p0 m0:Int}{r:List Int}(x:EW r)(z:r.length<=28){bad:List Int->g}(m:Int×List Int->Option (wZ (Int×List Int) (g⊕List Int)))
  (j:∀c,m c=bif decide (c.1<((p0::m0::r).length:Int))then bnd (CO (p0::m0::r) c.1) λp=>bif decide ((wrap .i64 p)>=(n:Int))then some (.done (.inl (bad c.2)))else(bnd (zZ (τ:=g⊕Unit) (λ(d:Int)=>bif decide (d<(c.2.length:Int))then bnd (CO c.2 d) λs=>bif(s==(wrap .i64 p))then some (.done (.inl (bad c.2)))else(some (.next (wrap .i64 (d+1))))else some (.done (.inr ()))) 0) λA=>Rf (λB=>(.done (.inl B))) A λH=>bnd (app 8 c.2 [wrap .i64 p]) λC=>some (.next (wrap .i64 (c.1+1),C)))else some (.done (.inr c.2))):
  ∀(k i:Nat) (a:List Int),i+k=r.length->a.length<=i->∃t,zZ m (((i+2:Nat):Int),a)=some t/\match Cm n a (r.drop i)with|some o=>t=.inr o|none=>∃b,t=.inl (bad b)
 |0,i,a,D,E=>by
  obtain rfl:i=r.length:=by omega
  refine⟨.inr a,yV ?_,?_⟩
  ·grind
  ·rw[List.drop_length];rfl
 |k+1,i,a,D,E=>by
  have e:i<r.length:=by omega
  have u:=x _ (DJ e);rw[WU e];unfold Cm;have v:CO (p0::m0::r) ((i+2:Nat):Int)=some r[i]:=by rw[IA];simp[CJ e]
  have f:zZ (τ:=g⊕Unit) (λ(d:Int)=>bif decide (d<(a.length:Int))then bnd (CO a d) λs=>bif(s==r[i])then some (.done (.inl (bad a)))else(some (.next (wrap .i64 (d+1))))else some (.done (.inr ()))) 0=some (bif decide (r[i]∈a)then .inl (bad a)else .inr ()):=by
   rw[<-Ru (zZ _ _)];refine uA (λq=>(q:Int)) a.length (λq=>a[q]?==some r[i]) (.inl (bad a)) (.inr ()) O (λq w=>?_) ?_ ?_
   ·rw[BK (by omega:(q:Int)<(a.length:Int)),BD,yN w,AA,CJ w,zV w (by omega)]
    grind
   ·grind
   ·rw[zVQ]
  by_cases y:(n:Int)<=r[i]
  ·rw[AQ (.inl y)]
   refine⟨.inl (bad a),yV ?_,a,O⟩;rw[j];simp only;rw[BK (by simp;omega:((i+2:Nat):Int)<((p0::m0::r).length:Int)),BD,v,AA,jA u,BK (by omega:r[i]>=(n:Int)),BD]
  by_cases l:r[i]∈a
  ·rw[AQ (.inr l)]
   refine⟨.inl (bad a),yV ?_,a,O⟩;rw[j];simp only;rw[BK (by simp;omega:((i+2:Nat):Int)<((p0::m0::r).length:Int)),BD,v,AA,jA u,BV (by omega:¬r[i]>=(n:Int)),BB,f,AA,BK l];rfl
  ·rw[AP (by rintro(h|h);exact y h;exact l h)]
   obtain⟨t,F,G⟩:=yCs x z m j k (i+1) (a++[r[i]]) (by omega) (by simp;omega);refine⟨t,xV ?_ F,G⟩;rw[j];simp only;rw[BK (by simp;omega:((i+2:Nat):Int)<((p0::m0::r).length:Int)),BD,v,AA,jA u,BV (by omega:¬r[i]>=(n:Int)),BB,f,AA,BV l];simp only[BB,Rf];rw[wF (by simp;omega) (by simp;omega),AA,show((i+2:Nat):Int)+1=((i+1+2:Nat):Int)by omega,xN (by omega)]
theorem yCm(q:G.length<=8)(N:List zY)(d:EW F)(e:F.length<=28):∃a,rE (ar0 G N) F=some (a,(Uf G.length F).isSome)/\∀p m o,Uf G.length F=some (p,m,o)->a=⟨true,G,N,p,WM,m,o⟩:=by
 match F,d,e with
 |[],_,_=>exact⟨_,O,λp m o h=>by cases h⟩|[p],_,_=>exact⟨_,O,λp m o h=>by cases h⟩|p::m::r,d,e=>
  have hp:=d p (by simp);have k:=d m (by simp);unfold rE;rw[BV (by simp;omega:¬((p::m::r).length:Int)<2),BB,show CO (p::m::r) 0=some p from O,AA,show CO (p::m::r) 1=some m from O];rw[zGB];by_cases f:p=2\/p=3
  case neg=>
   have c:p≠2/\p≠3:=by simpa using f
   rw[yT (by simpa using c.1),show(p !=3)=true by simpa using c.2,AP f];simp_all
  have l:(bif(p !=2)then some (p !=3)else some false:Option Bool)=some false:=by grind
  rw[l,AA,AQ f];simp only[BB,AA];rw[jA hp,jA k];obtain⟨t,i,c⟩:=yCs (n:=G.length) (p0:=p) (m0:=m) (r:=r) (λy hy=>d y (by simp[hy])) (by simp at e;omega) (bad:=λg=>((⟨true,G,N,p,WM,m,g⟩:zH),false)) _ (λ_=>O) r.length 0 [] (by omega) (by simp);rw[NR]at c;cases j:Cm G.length [] r with
  |none=>
   rw[j]at c;obtain⟨b,rfl⟩:=c;exact⟨_,yL i O,λp m o h=>by cases h⟩
  |some o=>
   rw[j]at c;simp only at c;subst c;refine⟨_,yL i O,λs u v h=>?_⟩;obtain⟨rfl,rfl,rfl⟩:=h;rfl
def ZL(X:List zA)(m x:Int):Bool:=match X[x.toNat]?with
 |some d=>d.Active !=if m.toNat.testBit x.toNat=true then 1 else 0|none=>false
def yCP{X:List zA}(c:X.length<=8){N:List zY}{p m x:Int}{o:List Int}(d:0<=m/\m<=255)(e:0<=x/\x<X.length):wC ⟨true,X,N,p,WM,m,o⟩ x=some (ZL X m x):=by
 obtain⟨i,rfl⟩:∃i:Nat,x=(i:Int):=⟨x.toNat,by omega⟩;obtain⟨k,rfl⟩:∃k:Nat,m=(k:Int):=⟨m.toNat,by omega⟩;have a:i<X.length:=by omega
 unfold wC ZL;rw[yN a,AA,O4 (show i<=8 by omega),AA,JG,JG,CJ a];have b:k/2^i<256:=NK (MF _ _) (by omega);rw[show(1:Int)=((1:Nat):Int)from O,O3 b (by decide),zOC];split<;>rfl
theorem yCz{X:List zA}(c:X.length<=8){m x:Int}(d:0<=m/\m<=255)(e:0<=x/\x<X.length):vY ⟨true,X,I,J,WM,m,F⟩ x=some (ZL X m x):=by
 obtain⟨i,rfl⟩:∃i:Nat,x=(i:Int):=⟨x.toNat,by omega⟩;obtain⟨k,rfl⟩:∃k:Nat,m=(k:Int):=⟨m.toNat,by omega⟩;have a:i<X.length:=by omega
 unfold vY ZL
 have b:wrap .u64 (i:Int)=(i:Int):=by
  have:∀n:Nat,n<8->wrap .u64 (n:Int)=(n:Int):=by decide
  grind
 rw[yN a,AA,b,O4 (show i<=64 by omega),AA,JG,JG,CJ a];have f:k/2^i<256:=NK (MF _ _) (by omega);rw[show(1:Int)=((1:Nat):Int)from O,zKU (by omega) (by decide),zOC];split<;>rfl
def stay(X:List zA)(p m:Int)(o:List Int):Bool:=bif p==3 then o.any (ZL X m)else o.any λx=>!ZL X m x
theorem zYf{X:List zA}(c:X.length<=8){N:List zY}{p m:Int}{o:List Int}(d:0<=m/\m<=255)(e:∀x∈o,0<=x/\x<X.length)(g:o.length<=28):uX ⟨true,X,N,p,WM,m,o⟩=some ((o.filter (ZL X m)).length:Int):=by
 refine xM (λi=>((((o.take i).filter (ZL X m)).length:Int),(i:Int))) o.length ((o.filter (ZL X m)).length:Int) O (λi a=>?_) ?_ O
 ·simp only
  rw[BK (by omega:(i:Int)<(o.length:Int)),BD,yN a,AA,yCz c d (e _ (DJ a)),AA,zV a (by omega),xA a,RS];have f:((o.take i).filter (ZL X m)).length<=28:=JU (OL _ _) (by simp;omega);cases b:ZL X m o[i]
  ·rw[BB];simp[b]
  ·rw[BD]
   simp only[ER,NY,b,FO,List.filter_nil];rw[yF (by omega) (by omega)];rfl
 ·grind
theorem yCw{X:List zA}(a:X.length<=8){N:List zY}{p m:Int}{o:List Int}(hp:p=2\/p=3)(b:0<=m/\m<=255)(c:∀x∈o,0<=x/\x<X.length)(d:o.length<=28)(s:zG)(f:yB):vP ⟨true,X,N,p,WM,m,o⟩ s f=bif stay X p m o then some (⟨true,X,N,p,WM,m,o⟩,s,f,0)else bnd (xL s [⟨32,[],true⟩] f) λr=>bif r.2.2 !=0 then some (⟨true,X,N,p,WM,m,o⟩,r.1,r.2.1,r.2.2)else some (⟨true,X,N,0,WM,m,[]⟩,r.1,r.2.1,0):=by
 unfold vP stay;rw[zYf a b c d,AA]
 have e:decide (((o.filter (ZL X m)).length:Int)<(o.length:Int))=o.any λx=>!ZL X m x:=by rw[FK,FP,JH];simp_all
 have g:decide (((o.filter (ZL X m)).length:Int)>0)=o.any (ZL X m):=by rw[FK,FP,JH];simp_all
 simp only;rw[e,g];rcases hp with rfl|rfl
 ·simp only[show((2:Int)==2)=true from O,show((2:Int)==3)=false from O,BD,BB]
  cases(o.any λx=>!ZL X m x)<;>rfl
 ·rfl
def VA(z p:Nat):Nat:=(z+p-1)/p
def Qc(hp:1<=E)(hz:1<=h):U<VA h E↔U*E<h:=by unfold VA;rw[show(U<(h+E-1)/E)↔U+1<=(h+E-1)/E from Iff.rfl,Nat.le_div_iff_mul_le (by omega),Nat.succ_mul];omega
structure GD(D:yA)(z p:Nat):Prop where
 sz:D.Size=(z:Int)
 pt:D.Part=(p:Int)
 z1:1<=z
 z2:z<=8192
 p1:1<=p
 p2:p<=64
 hv:D.Have.length=VA z p
 da:D.Data.length=z
 zr:∀i,i<z->D.Have[i/p]?=some false->D.Data[i]?=some 0
 rg:EW D.Data
variable{H:yA}
def GD.cz(a:GD H h E):VA h E<=8192:=by have c:=a.z1;have d:=a.z2;have e:=a.p1;apply XV;intro b;have:=(Qc a.p1 a.z1).1 b;omega
def zSm(hy:1<=E)(a:h<=1000000000):Je .i64 (h:Int) (E:Int)=some ((h/E:Nat):Int):=by unfold Je;have:h/E<=h:=MF _ _;rw[AP (by omega),zWZ,xN (by omega)]
def zPp{z p:Nat}(hz:z<=8192)(hp:1<=p)(a:p<=64):mW (z:Int) (p:Int)=some (VA z p:Int)/\gK (z:Int) (p:Int)=some (VA z p:Int):=by unfold mW gK;rw[show((z:Int)+(p:Int))=((z+p:Nat):Int)by omega,xN (by omega),show(((z+p:Nat):Int)-1)=((z+p-1:Nat):Int)by omega,xN (by omega),zSm hp (by omega)];exact⟨O,O⟩
def zdl:yA:=⟨0,0,[],[]⟩
def Iz(s p:Int):yA×Int:=if 1<=s/\s<=8192/\1<=p/\p<=64 then(⟨s,p,List.replicate (VA s.toNat p.toNat) false,List.replicate s.toNat 0⟩,0)else(zdl,2)
theorem zXE(s p:Int):eU s p=some (Iz s p)/\U0 s p=some (Iz s p):=by
 unfold eU U0 Iz
 have f:rK s p=some (decide (1<=s/\s<=8192/\1<=p/\p<=64)):=by unfold rK;by_cases a:s>=1<;>by_cases b:s<=8192<;>by_cases c:p>=1<;>by_cases d:p<=64<;>simp[a,b,c,d]<;>omega
 have e:(bif decide (s<1)then some true else bif decide (s>8192)then some true else bif decide (p<1)then some true else some (decide (p>64)):Option Bool)=some (!decide (1<=s/\s<=8192/\1<=p/\p<=64)):=by by_cases a:s<1<;>by_cases b:s>8192<;>by_cases c:p<1<;>by_cases d:p>64<;>simp[a,b,c,d]<;>omega
 rw[f,AA,e,AA];by_cases h:1<=s/\s<=8192/\1<=p/\p<=64
 ·obtain⟨z,rfl⟩:∃z:Nat,s=z:=⟨s.toNat,by omega⟩
  obtain⟨q,rfl⟩:∃q:Nat,p=q:=⟨p.toNat,by omega⟩;obtain⟨g,i⟩:=zPp (z:=z) (p:=q) (by omega) (by omega) (by omega);have j:VA z q<=8255:=JU (MF _ _) (by omega)
  have k:mkS 1 false (VA z q:Int) (VA z q:Int)=some (List.replicate (VA z q) false):=by unfold mkS;rw[AQ ⟨by omega,by omega,by omega,by omega⟩];simp
  have l:mkS 1 (0:Int) (z:Int) (z:Int)=some (List.replicate z 0):=by
   unfold mkS
   grind
  simp_all
 ·rw[BV h,AP h]
  exact⟨O,O⟩
theorem zZH{p:Int}(h:(Iz J p).2=0):GD (Iz J p).1 J.toNat p.toNat:=by
 unfold Iz at h⊢;split
 ·refine⟨by simp;omega,by simp;omega,by omega,by omega,by omega,by omega,by simp,by simp,λi a _=>by simp[a],λx b=>?_⟩
  grind
 ·grind
def Ug(a:GD H h E)(b:U<VA h E):wrap .i64 ((U:Int)*H.Part)=((U*E:Nat):Int)/\min (wrap .i64 (((U*E:Nat):Int)+H.Part)) H.Size=((min (U*E+E) h:Nat):Int):=by have c:=(Qc a.p1 a.z1).1 b;have d:=a.z2;have e:=a.p2;rw[a.pt,a.sz,show(U:Int)*(E:Int)=((U*E:Nat):Int)by simp,xN (by omega),show(((U*E:Nat):Int)+(E:Int))=((U*E+E:Nat):Int)by omega,xN (by omega)];omega
def WN(D:yA)(z p i:Nat):List Int:=(D.Data.take (min (i*p+p) z)).drop (i*p)
def Zk{i:Nat}(a:GD H h E):(WN H h E i).length=min (i*E+E) h-i*E:=by unfold WN;rw[EM,DV,a.da];omega
def zPU(a:GD H h E)(b:U<VA h E):sub H.Data ((U*E:Nat):Int) ((min (U*E+E) h:Nat):Int)=some (WN H h E U):=by have c:=(Qc a.p1 a.z1).1 b;unfold sub;rw[AQ ⟨by omega,by omega,by rw[a.da];omega⟩];rfl
def zYX(a:GD H h E)(b:U<VA h E):pV H (U:Int)=some (WN H h E U):=by unfold pV;rw[(Ug a b).1,(Ug a b).2,zPU a b,AA]
def zJZ(a:GD H h E)(c:U<VA h E):∃b,CO H.Have (U:Int)=some b/\H.Have[U]?=some b:=by exact⟨_,CJ (by rw[a.hv];exact c),CJ _⟩
theorem zXv(a:GD H h E)(b:H.Have[U]?=some false):∀x∈WN H h E U,x=0:=by
 intro x c;obtain⟨k,d,rfl⟩:=IZ.1 c;have f:=Zk (i:=U) a
 have g:=a.zr (U*E+k) (by omega) (by rw[YW,Nat.mul_add_div (by have:=a.p1;omega),XZ (by omega)];exact b)
 have e:(WN H h E U)[k]?=some 0:=by
  unfold WN
  grind
 grind
theorem zPr(a:GD H h E):pX H=some true:=by
 have l:=a.cz;have d:=a.z2;have m:=a.z1;have e:=a.p1;have f:=a.p2;refine yL (a:=false) ?_ ?_
 ·have g:rK H.Size H.Part=some true:=by unfold rK;rw[a.sz,a.pt,BK (by omega:(h:Int)>=1),BD,BK (by omega:(h:Int)<=8192),BD,BK (by omega:(E:Int)>=1),BD,BK (by omega:(E:Int)<=64)];rfl
  rw[g,AA,EG,a.sz,a.pt,(zPp d e f).1,AA,a.hv,a.da];simp
 rw[BB,a.hv];refine xM (λi=>(i:Int)) (VA h E) (.inr ()) O (λi c=>?_) ?_ O
 ·obtain⟨b,j,k⟩:=zJZ a c
  rw[BK (by omega:(i:Int)<(VA h E:Int)),BD,j,AA];refine yL (a:=false) ?_ (by rw[BB,zV c (by omega)]);cases b
  ·rw[IK,BD,zYX a c,AA,zZx (zXv a k) (by rw[Zk a];omega),AA]
  ·rfl
 ·grind
theorem zPg(a:GD H h E):kJ H=some true:=by
 have m:=a.cz;have e:=a.z2;have f:=a.z1;have c:=a.p1;have g:=a.p2;refine yL (a:=false) ?_ ?_
 ·rw[a.sz,a.pt,BV (by omega:¬(h:Int)<1),BV (by omega:¬(h:Int)>8192),BB,BV (by omega:¬(E:Int)<1),BB,BV (by omega:¬(E:Int)>64),BB,(zPp e c g).2,AA,a.hv,a.da]
  simp
 rw[BB,a.sz];refine xM (λi=>(i:Int)) h (.inr ()) O (λi d=>?_) ?_ O
 ·have j:i/E<VA h E:=(Qc c f).2 (NK (Nat.div_mul_le_self _ _) d)
  obtain⟨b,k,l⟩:=zJZ a j;rw[BK (by omega:(i:Int)<(h:Int)),BD,a.pt,zSm c (by omega),AA,k,AA];refine yL (a:=false) ?_ (by rw[BB,zV d (by omega)]);cases b
  ·rw[IK,BD,IA,a.zr i d l,AA]
   rfl
  ·rfl
 ·grind
theorem yCD{m:List Int}(f:F.length<=1000000):rA F m=some (decide (F=m)):=by
 unfold rA;by_cases e:F.length=m.length
 ·rw[e,show((m.length:Int) !=(m.length:Int))=false by simp]
  have:=Wu (m:=λ(b:Int)=>bif decide (b<(m.length:Int))then bnd (CO F b) λc=>bnd (CO m b) λd=>bif(c !=d)then some (.done (.inl false))else(some (.next (wrap .i64 (b+1))))else some (.done (.inr ()))) (λi=>(i:Int)) m.length (λi=>F[i]? !=m[i]?) (u:=(Sum.inl false:Bool⊕Unit)) (t:=.inr ()) (λi a=>by rw[BK (by omega:(i:Int)<(m.length:Int)),yN (e▸a),AA,yN a,AA,CJ (e▸a),CJ a,zV a (by omega)];simp only[bne,Option.some_beq_some];cases(F[i]'(e▸a)==m[i])<;>rfl) (by simp)
  refine yL this ?_;by_cases h:F=m
  ·subst h
   rw[BK O,show(List.range F.length).any (λi=>F[i]? !=F[i]?)=false by simp];rfl
  ·rw[BV h]
   have:(List.range m.length).any (λi=>F[i]? !=m[i]?)=true:=by
    apply PS;intro g;apply h;apply FW
    grind
   rw[this];rfl
 ·rw[show((F.length:Int) !=(m.length:Int))=true by simp;omega,BD,BV (λh=>e (by rw[h]))]
def zPu:∀{l:List Int},EW l->∃a,xJ a/\l=iz a
 |[],_=>⟨[],xJ.nil,O⟩|x::r,h=>by
  obtain⟨n,b,rfl⟩:=pD (h x (by simp));obtain⟨a,c,rfl⟩:=zPu (l:=r) λy hy=>h y (by simp[hy])
  exact⟨n::a,c.cons b,O⟩
theorem zJL(i:Int)(n:Nat):(bif decide (i<0)then some true else some (decide (i>=(n:Int))):Option Bool)=some (decide (i<0\/(n:Int)<=i)):=by grind
theorem zUP{m:List Int}(c:EW F)(d:EW m):((iR F).toList==(iR m).toList)=decide (F=m):=by
 obtain⟨a,f,rfl⟩:=zPu c;obtain⟨b,g,rfl⟩:=zPu d;rw[bW,bW,dT,Nl f,Nl g];by_cases h:a=b
 ·grind
 ·rw[BV h,BV (λe=>h (zZg e))]
def yCB(D:yA)(p i:Nat)(b:List Int):yA:=⟨D.Size,D.Part,D.Have.set i true,D.Data.take (i*p)++b++D.Data.drop (i*p+b.length)⟩
def Dc(D:yA)(z p:Nat)(i:Int)(b:List Int):yA×Int:=
 if i<0\/(VA z p:Int)<=i then(zdl,2)else if b.length≠(WN D z p i.toNat).length then(zdl,4)else if D.Have[i.toNat]?=some true/\b≠WN D z p i.toNat then(zdl,42)else(yCB D p i.toNat b,0)
def yCI(a:GD H h E)(i:Int)(m:F.length<=1000):kX H i F=some (Dc H h E i F):=by
 have n:=a.cz;have o:=a.z2;unfold kX Dc;rw[zPr a,AA,a.hv];by_cases d:i<0\/(VA h E:Int)<=i
 ·rw[AQ d,zJL,BK d]
  rfl
 rw[AP d,zJL,BV d,AA,BB];obtain⟨k,rfl⟩:∃k:Nat,i=k:=⟨i.toNat,by omega⟩;have b:k<VA h E:=by omega
 rw[zYX a b,AA,JG];by_cases e:F.length=(WN H h E k).length
 case neg=>rw[AQ e,show((F.length:Int) !=((WN H h E k).length:Int))=true by simp;omega,BD];rfl
 rw[AP (by simpa using e),e,show(((WN H h E k).length:Int) !=((WN H h E k).length:Int))=false by simp,BB];obtain⟨v,g,j⟩:=zJZ a b;rw[g,AA,j];by_cases c:v=true/\F≠WN H h E k
 ·obtain⟨rfl,c⟩:=c
  rw[AQ ⟨O,c⟩,BD,AA,yCD (by omega),AA,BV c];rfl
 rw[AP (by simpa using c)];refine yL (a:=false) ?_ ?_
 ·cases v
  ·rfl
  ·rw[BD,AA,yCD (by omega),AA,BK (by simpa using c)];rfl
 have p:=(Qc a.p1 a.z1).1 b;rw[BB,zTh (by rw[a.hv];omega),AA,gE (by rw[a.da];omega),AA,g,AA,uS (by rw[a.hv];exact b),AA]
 have f:mB (⟨H.Size,H.Part,H.Have.set k true,H.Data⟩:yA) (k:Int)=some (k*E,min (k*E+E) h-k*E):=by unfold mB;rw[(Ug a b).1,(Ug a b).2];unfold rO;rw[AQ ⟨by omega,by omega,by rw[a.da];omega⟩,AA,JG,JG]
 rw[f,AA];have l:=Zk (i:=k) a;unfold aR;simp only;rw[AQ (by rw[a.da];omega),AA,<-l,<-e,GU,Nat.min_self];rfl
theorem yCL(a:GD H h E)(i:Int)(t:F.length<=1000)(q:EW F):eR H i F=some (Dc H h E i F):=by
 have u:=a.cz;have w:=a.z2;unfold eR Dc;rw[zPg a,AA,EG,BB,a.hv];by_cases g:i<0\/(VA h E:Int)<=i
 ·rw[AQ g,zJL,BK g]
  rfl
 rw[AP g,zJL,BV g,AA,BB];obtain⟨k,rfl⟩:∃k:Nat,i=k:=⟨i.toNat,by omega⟩;have d:k<VA h E:=by omega
 have x:=(Qc a.p1 a.z1).1 d;have y:=Zk (i:=k) a;rw[(Ug a d).1,(Ug a d).2,JG,show((min (k*E+E) h:Nat):Int)-((k*E:Nat):Int)=((WN H h E k).length:Int)by omega,xN (by omega)];by_cases l:F.length=(WN H h E k).length
 case neg=>rw[AQ l,show((F.length:Int) !=((WN H h E k).length:Int))=true by simp;omega,BD];rfl
 rw[AP (by simpa using l),l,show(((WN H h E k).length:Int) !=((WN H h E k).length:Int))=false by simp,BB,<-l];obtain⟨v,p,r⟩:=zJZ a d;rw[p,AA,r,zPU a d];have s:EW (WN H h E k):=(a.rg.take _).drop _;by_cases f:v=true/\F≠WN H h E k
 ·obtain⟨rfl,f⟩:=f
  rw[AQ ⟨O,f⟩,BD,AA,zUP s q,BV (λe=>f e.symm)];rfl
 rw[AP (by simpa using f)];refine yL (a:=false) ?_ ?_
 ·cases v
  ·rfl
  ·simp_all
 have m:fE H=some H:=by unfold fE;rw[wF (by simp[a.hv];omega) (by simp[a.hv];omega),AA,wF (by simp[a.da];omega) (by simp[a.da];omega),AA];rfl
 rw[BB,m,AA,p,AA,uS (by rw[a.hv];exact d),AA];refine xM (λj=>((j:Int),H.Data.take (k*E)++F.take j++H.Data.drop (k*E+j))) F.length (H.Data.take (k*E)++F++H.Data.drop (k*E+F.length)) (by simp) (λj n=>?_) ?_ O
 ·simp only
  have o:(H.Data.take (k*E)).length=k*E:=by rw[DV,a.da];omega
  have c:(F.take j).length=j:=by rw[DV];omega
  have b:k*E+j<(H.Data.take (k*E)++F.take j++H.Data.drop (k*E+j)).length:=by rw[ER,ER,o,c,EM,a.da];omega
  rw[BK (by omega:(j:Int)<(F.length:Int)),BD,show((k*E:Nat):Int)+(j:Int)=((k*E+j:Nat):Int)by omega,xN (by omega),yN b,AA,yN n,AA,AA,uS b,AA,zV n (by omega)];congr 3;rw[tu _ _ (by rw[ER,o,c];omega),ER,o,c,KI,WU (by rw[a.da];omega:k*E+j<H.Data.length),List.set_cons_zero];simp;rw[xA n,FH];rfl
 ·grind
theorem zZE(a:GD H h E)(j:EW F)(c:(Dc H h E J F).2=0):GD (Dc H h E J F).1 h E:=by
 unfold Dc at c⊢;split
 ·rename_i e;rw[AQ e]at c;cases c
 rename_i f;split
 ·rename_i e;rw[AP f,AQ e]at c;cases c
 rename_i g;split
 ·rename_i e;rw[AP f,AP g,AQ e]at c;cases c
 obtain⟨k,rfl⟩:∃k:Nat,J=k:=⟨J.toNat,by omega⟩;have l:k<VA h E:=by omega
 have q:=(Qc a.p1 a.z1).1 l;have r:=Zk (i:=k) a;rw[JG]at g⊢;have m:(H.Data.take (k*E)).length=k*E:=by rw[DV,a.da];omega
 refine⟨a.sz,a.pt,a.z1,a.z2,a.p1,a.p2,by simp[yCB,a.hv],?_,λJ n o=>?_,?_⟩
 ·show(H.Data.take (k*E)++F++H.Data.drop (k*E+F.length)).length=h
  rw[ER,ER,m,EM,a.da];omega
 ·have b:(H.Have.set k true)[J/E]?=some false:=o
  rw[KR]at b
  have d:k≠J/E:=λe=>by rw[AQ e]at b;split at b<;>simp at b
  rw[AP d]at b;have hz:=a.zr J n b;show(H.Data.take (k*E)++F++H.Data.drop (k*E+F.length))[J]?=some 0;have hp:=a.p1;by_cases p:J<k*E
  ·grind
  ·have:k*E+E<=J:=by apply XV;intro s;exact d (Nat.div_eq_of_lt_le (by omega) (by rw[Nat.succ_mul];omega)).symm
   grind
 ·exact((a.rg.take _).app j).app (a.rg.drop _)
def mR(H:List Bool)(m:Int)(i:Nat):List Int:=(((List.range i).filter λi=>H[i]?==some false).take m.toNat).map λ(n:Nat)=>(n:Int)
theorem zIz(H:List Bool)(m:Int)(i:Nat):mR H m (i+1)=if H[i]?=some false/\((mR H m i).length:Int)<m then mR H m i++[(i:Int)]else mR H m i:=by
 unfold mR;rw[OT,RS,XW,MC,FQ,DV];by_cases h:H[i]?=some false
 ·rw[List.filter_cons_of_pos (by simpa using h),List.filter_nil]
  by_cases a:((min m.toNat ((List.range i).filter λi=>H[i]?==some false).length:Nat):Int)<m
  ·rw[AQ ⟨h,a⟩,show m.toNat-((List.range i).filter λi=>H[i]?==some false).length=(m.toNat-((List.range i).filter λi=>H[i]?==some false).length-1)+1 by omega,vk,List.take_nil]
   rfl
  ·rw[AP (λe=>a e.2),show m.toNat-((List.range i).filter λi=>H[i]?==some false).length=0 by omega]
   simp
 ·grind
def zNA{H:List Bool}{m:Int}{i:Nat}(h:¬((mR H m i).length:Int)<m):∀k,mR H m (i+k)=mR H m i
 |0=>rfl|k+1=>by rw[<-LG,zIz,zNA h k,AP (λe=>h e.2)]
def zMZ(H:List Bool)(m:Int):(([]:List Int),(0:Int))=(mR H m 0,((0:Nat):Int)):=by unfold mR;simp
theorem zQs(H:List Bool)(m:Int)(i:Nat):(mR H m i).length<=i:=by
 unfold mR
 grind
def zQp{H:List Bool}(a:h<=10000):app 8 (mR H J h) [(h:Int)]=some (mR H J h++[(h:Int)]):=by have:=zQs H J h;exact wF (by simp;omega) (by simp;omega)
theorem yCr(a:GD H h E)(m:Int):kV H m=some (mR H.Have m H.Have.length):=by
 have c:=a.cz;have d:=a.hv;unfold kV;rw[zPr a,AA,EG,BB,Ru,zMZ H.Have m];refine rF (λi=>(mR H.Have m i,(i:Int))) H.Have.length (λi b=>?_) ?_
 case refine_2=>simp only;rw[BV (by omega:¬(H.Have.length:Int)<(H.Have.length:Int)),BB]
 simp only;rw[BK (by omega:(i:Int)<(H.Have.length:Int)),BD,yN b,AA,zIz,CJ b,zQp (by omega),zV b (by omega)];cases e:H.Have[i]
 ·rw[IK,BD,AA]
  by_cases f:((mR H.Have m i).length:Int)<m
  ·simp_all
  ·grind
 ·rfl
theorem yAM(a:GD H h E)(m:Int):jM H m=some (mR H.Have m H.Have.length):=by
 have d:=a.cz;have f:=a.hv;unfold jM;rw[zPg a,AA,EG,BB,Ru,zMZ H.Have m];refine(O0 (λi=>(mR H.Have m i,(i:Int))) H.Have.length (λi=>if((mR H.Have m i).length:Int)<m then none else some (mR H.Have m i)) (t:=mR H.Have m H.Have.length) (λi c=>?_) ?_).trans ?_
 ·simp only
  rw[BK (by omega:(i:Int)<(H.Have.length:Int)),BD,AA];by_cases b:((mR H.Have m i).length:Int)<m
  ·rw[BK b,BD,AQ b,yN c,AA,zIz,CJ c,zQp (by omega),zV c (by omega)]
   cases g:H.Have[i]
   ·rw[IK,BD,AA,AQ ⟨O,b⟩]
   ·rfl
  ·rw[BV b,BB,AP b]
 ·simp_all
 ·congr 1
  cases e:(List.range H.Have.length).findSome? (λi=>if((mR H.Have m i).length:Int)<m then none else some (mR H.Have m i))with
  |none=>rfl|some u=>
   obtain⟨i,c,e⟩:=VB e;split at e
   ·cases e
   ·rename_i b
    injection e with e;have:=zNA b (H.Have.length-i)
    grind
theorem yCE{l:List Bool}(a:l.length<=10000):qQ l false=some (l.any λx=>!x):=by
 refine zTJ l a (λx=>!x) _ (λi b=>?_) ?_
 ·rw[BK (by omega:(i:Int)<(l.length:Int)),BD,yN b,AA]
  grind
 ·grind
theorem zXP(H:List Bool):((mR H 1 H.length).length==0)=!H.any λx=>!x:=by
 unfold mR;by_cases h:∃i,i<H.length/\H[i]?=some false
 ·obtain⟨i,a,e⟩:=h
  have b:0<((List.range H.length).filter λi=>H[i]?==some false).length:=qx (KH.2 ⟨JS.2 a,by simpa using e⟩)
  grind
 ·have b:((List.range H.length).filter λi=>H[i]?==some false)=[]:=WY.2 λi a e=>h ⟨i,JS.1 a,by simpa using e⟩
  have c:(H.any λx=>!x)=false:=RV.2 λx d e=>by obtain⟨i,a,rfl⟩:=IZ.1 d;simp_all
  rw[b,c];rfl
def Uh(D:yA):Bool:=!D.Have.any λx=>!x
def zYC(a:GD H h E):tA H=some (Uh H):=by have b:=a.cz;have c:=a.hv;unfold tA;rw[zPr a,yCE (by omega),AA];rfl
theorem zXS(a:GD H h E):mS H=some (Uh H):=by
 unfold mS;rw[zPg a,AA,BD,yAM a,AA,AA];unfold Uh;rw[<-zXP];congr 1
 grind
theorem yBN(a:GD H h E):pW H=some (if Uh H then(H.Data,0)else([],46)):=by
 have b:=a.z2;unfold pW;rw[zPr a,AA,EG,BB,zYC a,AA,gE (by rw[a.da];omega),AA]
 grind
theorem yBl(a:GD H h E):bI H=some (if Uh H then(H.Data,0)else([],46)):=by
 have b:=a.z2;unfold bI;rw[zPg a,AA,EG,BB,zXS a,AA,wF (by simp[a.da];omega) (by simp[a.da];omega),AA]
 grind
def toF(d:zB):yB:=⟨d.size,d.bytes,d.BO,d.steps,d.left,d.DT,d.down⟩
def zZm(h:JD S)(a n:Int):lW (toF S) a n=some (decide (0<=a/\a<=S.bytes.length/\0<=n/\n<=S.bytes.length-a)):=by
 have e:=h.bound;unfold lW;show bnd (bif decide (a>=0)then bif decide (n>=0)then bif decide (a<=(S.bytes.length:Int))then some (decide (n<=(wrap .i64 ((S.bytes.length:Int)-a))))else(some false)else(some false)else some false) _=_;by_cases b:a>=0
 ·rw[yT (by simpa using b)]
  by_cases c:n>=0
  ·rw[yT (by simpa using c)]
   by_cases d:a<=(S.bytes.length:Int)
   ·rw[yT (by simpa using d),AA,yF (by omega) (by omega)]
    congr 1;rw[QB];omega
   ·rw[yI (by simpa using d),AA]
    congr 1;symm;rw[JO];omega
  ·rw[yI (by simpa using c),AA]
   congr 1;symm;rw[JO];omega
 ·rw[yI (by simpa using b),AA]
  congr 1;symm;rw[JO];omega
def zRY(h:JD S)(c:S.down=false):uU (toF S)=some (toF (xR S).1,(xR S).2):=by
 have d:=h.left;unfold uU xR;simp only[toF,c];by_cases a:S.left=0
 ·rw[yT (by simpa using a),AP (by omega)]
 ·rw[yI (by simpa using a),AQ (by omega),yF (by omega) (by omega)]
  by_cases b:S.left-1>0
  ·rw[yT (by simpa using b)]
   have:(S.left-1==0)=false:=by simp;omega
   simp only[this]
  ·rw[yI (by simpa using b)]
   have:(S.left-1==0)=true:=by simp;omega
   simp only[this]
def Zl(c:Int)(d:List Int):yB×Int->Option (wZ (yB×Int) ((yB×Int)⊕yB)):=
 (λ(b:yB×Int)=>bif decide (b.2<(d.length:Int))then bnd (uU b.1) λa=>bif a.2 then bnd (CO a.1.Data (wrap .i64 (c+b.2))) λk=>bnd (CO a.1.Data (wrap .i64 (c+b.2))) λe=>bnd (CO d b.2) λf=>bnd (CO a.1.Data (wrap .i64 (c+b.2))) λl=>bnd (uF a.1.Data (wrap .i64 (c+b.2)) (uJ .u8 e (GR .u8 f a.1.NC))) λg=>some (.done (.inl ((⟨a.1.Size,g,a.1.EN,a.1.Steps,a.1.Left,a.1.NC,a.1.Down⟩:yB),10)))else(bnd (CO a.1.Data (wrap .i64 (c+b.2))) λm=>bnd (CO a.1.Data (wrap .i64 (c+b.2))) λh=>bnd (CO d b.2) λi=>bnd (CO a.1.Data (wrap .i64 (c+b.2))) λn=>bnd (uF a.1.Data (wrap .i64 (c+b.2)) (uJ .u8 h i)) λj=>some (.next ((⟨a.1.Size,j,a.1.EN,a.1.Steps,a.1.Left,a.1.NC,a.1.Down⟩:yB),wrap .i64 (b.2+1))))else some (.done (.inr b.1)))
def zHf(r:zB×Int):(yB×Int)⊕yB:=if r.2=0 then .inr (toF r.1)else .inl (toF r.1,r.2)
def zKR(a:Nat)(b:List Int)(r:EW b):∀(c:List Int) (j:Nat) (d:zB),JD d->d.down=false->b.drop j=c->j+c.length=b.length->a+b.length<=d.bytes.length->
  zZ (Zl (a:Int) b) (toF d,(j:Int))=some (zHf (nX d (a+j) c))
 |[],j,d,l,f,n,o,t=>by refine yV ?_;unfold Zl;simp only[KC]at o;rw[yI (by simp;omega)];rfl|x::c,j,d,l,f,n,o,t=>by
  have u:=l.bound;simp only[EP]at o;have i:j<b.length:=by omega
  have p:b[j]=x:=by have:=MO (h:=i);rw[n]at this;exact(List.cons.inj this).1
  have g:b.drop (j+1)=c:=by have:=MO (h:=i);rw[n]at this;exact(List.cons.inj this).2
  have q:=r x (by rw[<-p];exact DJ i);have m:a+j<(toF (xR d).1).Data.length:=by simp only[toF,wW];omega
  have s:wrap .i64 ((a:Int)+(j:Int))=((a+j:Nat):Int):=by rw[yF (by omega) (by omega)];omega
  have e:Zl (a:Int) b (toF d,(j:Int))=some (if(xR d).2 then .done (.inl (toF (VT (xR d).1 (a+j) (uJ .u8 (d.bytes.getD (a+j) 0) (GR .u8 x d.DT))),10))else .next (toF (VT (xR d).1 (a+j) (uJ .u8 (d.bytes.getD (a+j) 0) x)),((j+1:Nat):Int))):=by
   unfold Zl;simp only;rw[yT (by simp;omega),zRY l f,AA];cases k:(xR d).2
   ·rw[BB,s,gI m,AA,AA,yN i,p,AA,AA,uS m,AA,zV i (by omega),AP (by decide)]
    simp only[VT,toF,wW]
   ·rw[BD,s,gI m,AA,AA,yN i,p,AA,AA,uS m,AA,AQ O]
    simp only[VT,toF,wW,oH]
  cases k:(xR d).2
  ·rw[k]at e
   refine xV e ?_;have:=zKR a b r c (j+1) (VT (xR d).1 (a+j) (uJ .u8 (d.bytes.getD (a+j) 0) x)) (Xh (bM l) _ (U6 (l.EW.get _) q)) (by simp only[VT];rw[U7 f,k]) g (by omega) (by simp[VT,wW];omega);rw[this]
   conv=>rhs;unfold nX
   rw[AP (by rw[k];decide)];rfl
  ·rw[k]at e
   rw[yV e]
   conv=>rhs;unfold nX
   rw[AQ k];simp only[zHf];rw[AP (by decide)]
def zPl(r:zB×Int)(h:r.2=0\/r.2=10):(xX (zHf r) λa=>some (a,0))=some (toF r.1,r.2):=by
 unfold zHf;rcases h with h|h
 ·rw[AQ h,FD,<-h]
 ·rw[AP (by rw[h];decide),QK]
def Zm(h:JD S)(c:EW F)(a:Int):vE (toF S) a F=some (toF (yO S a F).1,(yO S a F).2):=by
 unfold vE yO;rw[show(toF S).Down=S.down from O];cases d:S.down
 ·rw[BB,zZm h,AA]
  by_cases b:0<=a/\a<=S.bytes.length/\0<=(F.length:Int)/\(F.length:Int)<=S.bytes.length-a
  ·rw[AP (by simp),AQ b,yI (by simp only[b,LJ];rfl)]
   have:=zKR a.toNat F c F 0 S h d O (by omega) (by omega);have e:((a.toNat:Nat):Int)=a:=by omega
   rw[e]at this;unfold Zl at this;exact yL this (zPl _ (Xi F S _))
  ·rw[AP (by simp),AP b,yT (by rw[BV b];rfl)]
 ·rw[BD,AQ O]
def zJd(h:JD S)(s:Int)(I:s<=4611686018427387904):mG (toF S) s=some (toF (tJ S s).1,(tJ S s).2):=by
 have J:=h.bound;unfold mG tJ;rw[show(toF S).Down=S.down from O,show(toF S).EN=S.BO from O];cases u:S.down
 ·rw[BB,AP (by simp)]
  by_cases d:s<0
  ·rw[yT (by simpa using d),AA,BD,AQ (.inl d)]
  ·rw[yI (by simpa using d),AA]
   by_cases e:s>=S.BO.length
   ·rw[yT (by simpa using e),AQ (.inr e)]
   ·rw[yI (by simpa using e),AP (by omega)]
    obtain⟨k,rfl⟩:∃k:Nat,s=(k:Int):=⟨s.toNat,by omega⟩;have p:k<S.BO.length:=by omega
    have C:=h.BO;have D:=bM (Xj h k)
    have r:uU (⟨(toF S).Size,(toF S).Data,S.BO.set k (wrap .i64 (S.BO.getD k 0+1)),(toF S).Steps,(toF S).Left,(toF S).NC,false⟩:yB)=some (toF (xR (NF S k)).1,(xR (NF S k)).2):=by rw[<-zRY (Xj h k) (by exact u)];simp only[NF,toF,u]
    rw[gI p,AA,uS p,AA,r,AA];have hz:=h.size;obtain⟨z,f⟩:∃z:Nat,S.size=(z:Int):=⟨S.size.toNat,by omega⟩;have a:(xR (NF S k)).1.size=(z:Int):=(fH _).trans f;have m:(xR (NF S k)).1.bytes=S.bytes:=wW _;have w:(xR (NF S k)).1.DT=S.DT:=oH _;have g:=uE h p;rw[f]at g
    have E:k*z<=16384:=by have:(z:Int).toNat=z:=rfl;rw[this]at g;omega
    have F:k*z+z<=S.bytes.length:=g
    have y:wrap .i64 ((k:Int)*(z:Int))=((k*z:Nat):Int):=by
     have:(k:Int)*(z:Int)=((k*z:Nat):Int):=by simp
     rw[this,xN (by omega)]
    have n:wrap .i64 (wrap .i64 ((k:Int)+1)*(z:Int))=((k*z+z:Nat):Int):=by
     rw[yF (x:=(k:Int)+1) (by omega) (by omega)];have:((k:Int)+1)*(z:Int)=((k*z+z:Nat):Int):=by simp[ZB]
     rw[this,xN (by omega)]
    have K:((k*z:Nat):Int).toNat=k*z:=rfl
    have A:∀(v:Int) (j:Nat),j<z->∀q:yB,q.Data=PL S.bytes (k*z) j v->CO q.Data ((k*z+j:Nat):Int)=some (S.bytes.getD (k*z+j) 0)/\uF q.Data ((k*z+j:Nat):Int) (GR .u8 (S.bytes.getD (k*z+j) 0) v)=some (PL S.bytes (k*z) (j+1) v):=by
     intro v j o q G;have i:k*z+j<S.bytes.length:=by omega
     have c:k*z+j<(PL S.bytes (k*z) j v).length:=by rw[zOq _ _ _ _ (by omega)];exact i
     rw[G,gI c,zUE v i,uS c,zQy v i];exact⟨O,O⟩
    have e4:(z:Int).toNat=z:=rfl;have e5:(k:Int).toNat=k:=rfl;rw[f];simp only[e4,e5];have B:(toF (xR (NF S k)).1).Size=(z:Int):=a;cases L:(xR (NF S k)).2
    ·rw[BB,B,y]
     refine xM (λj=>(toF (WB (xR (NF S k)).1 (PL S.bytes (k*z) j 255)),((k*z+j:Nat):Int))) z (toF (WB (xR (NF S k)).1 (PL S.bytes (k*z) z 255))) ?_ (λj o=>?_) ?_ O
     ·rw[zKu,<-m];rfl
     ·have b:(toF (WB (xR (NF S k)).1 (PL S.bytes (k*z) j 255))).Size=(z:Int):=a
      have l:=A 255 j o (toF (WB (xR (NF S k)).1 (PL S.bytes (k*z) j 255))) O;have H:=h.EW.get (k*z+j);rw[yAK H]at l;simp only[b,n];rw[yT (by simp;omega),l.1,AA,l.2,AA,yF (by omega) (by omega),show((k*z+j:Nat):Int)+1=((k*z+(j+1):Nat):Int)by omega];simp only[toF,WB,a,w]
     ·have b:(toF (WB (xR (NF S k)).1 (PL S.bytes (k*z) z 255))).Size=(z:Int):=a
      simp only[b,n];rw[yI (by simp)]
    ·rw[BD,B,y]
     refine xM (λj=>(toF (WB (xR (NF S k)).1 (PL S.bytes (k*z) j S.DT)),((k*z+j:Nat):Int))) z (toF (WB (xR (NF S k)).1 (PL S.bytes (k*z) z S.DT))) ?_ (λj o=>?_) ?_ O
     ·rw[zKu,<-m];rfl
     ·have b:(toF (WB (xR (NF S k)).1 (PL S.bytes (k*z) j S.DT))).Size=(z:Int):=a
      have t:(toF (WB (xR (NF S k)).1 (PL S.bytes (k*z) j S.DT))).NC=S.DT:=oH _;have l:=A S.DT j o (toF (WB (xR (NF S k)).1 (PL S.bytes (k*z) j S.DT))) O;simp only[b,t,n];rw[yT (by simp;omega),l.1,AA,AA,AA,l.2,AA,yF (by omega) (by omega),show((k*z+j:Nat):Int)+1=((k*z+(j+1):Nat):Int)by omega];simp only[toF,WB,a,w]
     ·have b:(toF (WB (xR (NF S k)).1 (PL S.bytes (k*z) z S.DT))).Size=(z:Int):=a
      simp only[b,n];rw[yI (by simp)]
 ·rw[BD,AQ O]
def zVq(d:zB)(n t:Int):kR (toF d) n t=some (toF (Bq d n t)):=by unfold kR Bq;rw[show(toF d).Down=d.down from O];cases a:d.down<;>simp[toF,a]
def zSU(d:zB):tE (toF d)=some (toF (bZ d)):=rfl
def zUX{n m:Nat}(a:1<=n/\n<=16)(b:64<=m/\m<=1024):fW (n:Int) (m:Int)=some (some (toF (Cb n m)),0):=by
 have c:n*m<=16*1024:=SK a.2 b.2;unfold fW;rw[yI (by simp;omega),yI (by simp;omega),yI (by simp;omega),show decide ((m:Int)>1024)=false by simp;omega,AA,yI O]
 have d:mkS 8 (0:Int) (n:Int) (n:Int)=some (List.replicate n 0):=by unfold mkS;rw[AQ ⟨by omega,by omega,by omega,by omega⟩];simp
 have e:wrap .i64 ((n:Int)*(m:Int))=((n*m:Nat):Int):=by
  have:(n:Int)*(m:Int)=((n*m:Nat):Int):=by simp
  rw[this,xN (by omega)]
 rw[d,AA,e];refine xM (λi=>((⟨(m:Int),List.replicate i 255,List.replicate n 0,0,0,0,false⟩:yB),(i:Int))) (n*m) (toF (Cb n m)) O (λi f=>?_) ?_ O
 ·simp only
  rw[yT (by simp;omega),wF (by simp;omega) (by simp;omega),AA,Tz (by omega),um]
 ·simp only
  rw[yI (by simp)];rfl
def aB(d:F.length<=1000000):nT F=some (sG F):=by
 unfold nT;refine uA (λi=>(i:Int)) F.length (λi=>F.getD i 255 !=255) (.inl false) (.inr ()) O (λi a=>?_) ?_ ?_
 ·rw[yT (by simp;omega),yN a,AA,IC,CJ a]
  simp only[GK];by_cases b:F[i]=255
  ·rw[yI (by simpa using b),zV a (by omega),yI (by simpa using b)]
  ·rw[yT (by simpa using b),yT (by simpa using b)]
 ·rw[yI (by simp)]
 ·have:(List.range F.length).any (λi=>F.getD i 255 !=255)=!sG F:=by
   rw[FK];unfold sG;simp only[JH,JS,JQ,List.all_eq_false];constructor
   ·rintro⟨i,a,h⟩
    rw[IC,CJ a]at h;exact⟨F[i],DJ a,by simpa using h⟩
   ·rintro⟨x,c,h⟩
    obtain⟨i,a,rfl⟩:=IZ.1 c;exact⟨i,a,by rw[IC,CJ a];simpa using h⟩
  rw[this];cases sG F<;>rfl
def prt(b:List Int)(a n:Nat):List Int:=(b.drop a).take n
def Zn(a:h+E<=F.length):(prt F h E).length=E:=by simp[prt];omega
def zJQ(h:EW F)(a n:Nat):EW (prt F a n):=(h.drop a).take n
theorem zZT(a:U<E):(prt F h E)[U]?=F[h+U]?:=by
 unfold prt
 grind
def Zo{i:Nat}(a:h+E<=F.length)(b:i<E):UY F h E (i:Int)=some ((prt F h E).getD i 0):=by unfold UY;rw[AQ ⟨by omega,by omega⟩,show(h:Int)+(i:Int)=((h+i:Nat):Int)by omega,IA,IC,zZT b,CJ (by omega)];rfl
theorem yAa{m:Nat}(a:h+E<=F.length)(b:U+m<=E):Go.Proofs.YtjconpohbhlcmaaGreatDoor.sub F ((h+U:Nat):Int) ((h+U+m:Nat):Int)=some (((prt F h E).drop U).take m):=by
 rw[dF (by omega) (by omega)];unfold prt;rw[LD,IV]
 grind
theorem zXy{c:List Int}{i:Nat}(h:i+2<=c.length):c.drop i=c.getD i 0::c.getD (i+1) 0::c.drop (i+2):=by
 rw[<-MO (h:=(by omega:i<c.length)),<-MO (h:=(by omega:i+1<c.length))]
 grind
def zJS(d:List Int)(b:Nat)(c:Nat):List zF×Int×Int->Option (wZ (List zF×Int×Int) (((List zF)×Int×Bool)⊕(List zF×Int))):=
 (λ(a:List zF×Int×Int)=>bnd (UY d b c 0) λg=>bif decide (a.2.2<(wrap .i64 g))then bif decide ((wrap .i64 ((c:Int)-a.2.1))<2)then some (.done (.inl ([],0,false)))else(bnd (UY d b c a.2.1) λh=>bnd (UY d b c (wrap .i64 (a.2.1+1))) λf=>bnd (bif((wrap .i64 f)==128)then some (0,true)else some (wrap .i64 f,false):Option (Int×Bool)) λe=>bnd (bif decide (e.1>28)then some true else some (decide ((wrap .i64 ((c:Int)-(wrap .i64 (a.2.1+2))))<e.1)):Option Bool) λi=>bif i then some (.done (.inl ([],0,false)))else bnd (aF d.length b c (wrap .i64 (a.2.1+2)) (wrap .i64 ((wrap .i64 (a.2.1+2))+e.1))) λj=>bnd (sub d ((b+(Int.toNat (wrap .i64 (a.2.1+2))):Nat):Int) (((b+(Int.toNat (wrap .i64 (a.2.1+2))))+j:Nat):Int)) λk=>bnd (pH k) λl=>bnd (nR a.1 (⟨h,l,e.2⟩:zF)) λm=>some (.next (m,wrap .i64 ((wrap .i64 (a.2.1+2))+e.1),wrap .i64 (a.2.2+1))))else some (.done (.inr (a.1,a.2.1))))
def zy{x:Int}(h:0<=x/\x<=1000000000):wrap .i64 x=x:=yF (by omega) (by omega)
variable{D:List zF}
theorem zQz(s:EW F)(d:h+E<=F.length)(K:E<=16384)(t:0<E)(u:Asc D)(L:D.length<=1000){i:Nat}(M:U<=E)(N:i<=1000):zJS F h E (D,(U:Int),(i:Int))=some (if(i:Int)<(prt F h E).getD 0 0 then match mg ((prt F h E).drop U)with|none=>.done (.inl ([],0,false))|some (x,m)=>.next (NI D x,((U+m:Nat):Int),((i+1:Nat):Int))else .done (.inr (D,(U:Int)))):=by
 have o:=zJQ s h E;have q:=Zn d;generalize b:prt F h E=c at o q;have w:UY F h E 0=some (c.getD 0 0):=by rw[<-b];exact Zo d (i:=0) t
 have z:=o.get 0;unfold zJS;simp only;rw[w,AA,zy (by omega)];by_cases j:(i:Int)<c.getD 0 0
 ·rw[yT (by simpa using j),AQ j,zy (by omega)]
  by_cases r:(E:Int)-(U:Int)<2
  ·rw[yT (by simpa using r)]
   have:c.drop U=[]\/∃x,c.drop U=[x]:=by
    have k:(c.drop U).length<2:=by simp;omega
    match l:c.drop U,k with
    |[],_=>exact .inl O|[x],_=>exact .inr ⟨x,O⟩
   rcases this with e|⟨x,e⟩<;>rw[e]<;>rfl
  ·have A:UY F h E (U:Int)=some (c.getD U 0):=by rw[<-b];exact Zo d (by omega)
   have B:UY F h E ((U+1:Nat):Int)=some (c.getD (U+1) 0):=by rw[<-b];exact Zo d (by omega)
   have p:=o.get (U+1);rw[yI (by simpa using r),A,AA,zy (x:=(U:Int)+1) (by omega),show(U:Int)+1=((U+1:Nat):Int)by omega,B,AA,zy (x:=c.getD (U+1) 0) (by omega),zy (x:=(U:Int)+2) (by omega),zXy (c:=c) (i:=U) (by omega),eE,zy (x:=(i:Int)+1) (by omega),zy (x:=(E:Int)-((U:Int)+2)) (by omega)];have C:(c.drop (U+2)).length=E-(U+2):=by simp[q]
   generalize P:c.getD U 0=x;generalize hy:c.getD (U+1) 0=y at p
   have g:∀(v:Nat) (a:Bool),U+2+v<=E->(bnd (aF F.length h E ((U:Int)+2) (wrap .i64 (((U:Int)+2)+(v:Int)))) λG=>bnd (sub F ((h+(Int.toNat ((U:Int)+2)):Nat):Int) (((h+(Int.toNat ((U:Int)+2)))+G:Nat):Int)) λH=>bnd (pH H) λI=>bnd (nR D (⟨x,I,a⟩:zF)) λJ=>some (wZ.next (J,wrap .i64 (((U:Int)+2)+(v:Int)),(i:Int)+1):wZ (List zF×Int×Int) (((List zF)×Int×Bool)⊕(List zF×Int))))=some (.next (NI D ⟨x,(c.drop (U+2)).take v,a⟩,((U+(2+v):Nat):Int),((i+1:Nat):Int))):=by
    intro v a Q;rw[zy (by omega),show(U:Int)+2=((U+2:Nat):Int)by omega,show((U+2:Nat):Int)+(v:Int)=((U+2+v:Nat):Int)by omega]
    have hp:aF F.length h E ((U+2:Nat):Int) ((U+2+v:Nat):Int)=some v:=by
     unfold aF
     grind
    rw[hp,AA,show Int.toNat ((U+2:Nat):Int)=U+2 from O,yAa d (by omega),AA,b,zXU (by simp;omega),AA,zPE u (by omega),AA,show U+2+v=U+(2+v)by omega,show(i:Int)+1=((i+1:Nat):Int)by omega]
   by_cases l:y=128
   ·rw[yT (by simpa using l),AQ l,AA]
    dsimp only;rw[yI (by decide),AA,yI (by simp;omega)];have:=g 0 true (by omega);rw[show((0:Nat):Int)=0 from O]at this;rw[this,SI]
   ·rw[yI (by simpa using l),AP l,AA]
    dsimp only;by_cases f:y>28\/((c.drop (U+2)).length:Int)<y
    ·rw[AQ f]
     by_cases n:y>28
     ·rw[yT (by simpa using n),AA,BD]
     ·rw[yI (by simpa using n),AA,yT (by simp;omega)]
    ·rw[AP f,yI (by simp;omega),AA,yI (by simp;omega)]
     grind
 ·grind
theorem zSe{b:List Int}(f:EW b){d n:Nat}(h:d+n<=b.length)(j:n<=16384)(o:0<n){q:Nat}(r:(prt b d n).getD 0 0=(q:Int))(s:q<=32):∀(k i a:Nat) (K:List zF),i+k=q->a<=n->Asc K->K.length<=32+i->
  zZ (zJS b d n) (K,(a:Int),(i:Int))=some (match jB k ((prt b d n).drop a)with|none=>.inl ([],0,false)|some (l,m)=>.inr (wS K l,((a+m:Nat):Int)))
 |0,i,a,K,v,t,g,w=>by have c:=zQz f h j o g (by omega) t (i:=i) (by omega);rw[r,AP (by omega)]at c;exact yV c|k+1,i,a,K,v,t,g,w=>by
  have c:=zQz f h j o g (by omega) t (i:=i) (by omega);rw[r,AQ (by omega)]at c;unfold jB;cases e:mg ((prt b d n).drop a)with
  |none=>rw[e]at c;exact yV c|some p=>
   obtain⟨x,m⟩:=p;have y:=Xu ((zJQ f d n).drop _) e;simp only[EM,Zn h]at y;rw[e]at c;refine xV c ?_;have u:=zPD K x;rw[zSe f h j o r s k (i+1) (a+m) (NI K x) (by omega) (by omega) (zKA g x) (by omega)];simp;cases z:jB k ((prt b d n).drop (a+m))with
   |none=>rfl|some p=>
    simp only[wS,LW]
    grind
def zTd(K:List zF)(o:Option (List zF×Nat)):List zF×Int×Bool:=match o with
 |some (l,n)=>if(wS K l).length>32 then([],0,false)else(wS K l,(n:Int),true)|none=>([],0,false)
theorem yBL(o:EW F)(a:h+E<=F.length)(x:E<=16384)(y:Asc D)(J:D.length<=32):qB F h E D=some (zTd D (qS (prt F h E))):=by
 have s:=zJQ o h E;have g:=Zn a;unfold qB;by_cases t:E=0
 ·subst t
  rfl
 ·have j:UY F h E 0=some ((prt F h E).getD 0 0):=Zo a (i:=0) (by omega)
  have k:=s.get 0
  obtain⟨c,r,d⟩:∃c r,prt F h E=c::r:=by
   match hp:prt F h E with
   |[]=>rw[hp]at g;simp at g;omega|c::r=>exact⟨c,r,O⟩
  have e:(prt F h E).getD 0 0=c:=by rw[d];rfl
  rw[e]at j k;have z:r.length+1=E:=by rw[d]at g;simpa using g
  rw[yI (by simpa using t),j,d,nB];simp only[AA];by_cases u:c<1\/c>32
  ·rw[AQ u]
   by_cases v:c<1
   ·rw[yT (by simpa using v),AA,BD];rfl
   ·rw[yI (by simpa using v),AA,yT (by simp;omega)];rfl
  ·rw[AP u,yI (by simp;omega),AA,yI (by simp;omega)]
   have b:=zSe o a x (by omega) (q:=c.toNat) (by rw[e];omega) (by omega) c.toNat 0 1 D (by omega) (by omega) y (by omega);have f:(prt F h E).drop 1=r:=by rw[d];rfl
   rw[f]at b;unfold zJS at b;rw[j]at b;simp only[AA]at b;have A:((1:Nat):Int)=1:=rfl;have B:((0:Nat):Int)=0:=rfl;rw[A,B]at b;rw[b,AA];cases C:jB c.toNat r with
   |none=>rfl|some p=>
    obtain⟨l,m⟩:=p;simp only[FD];have G:EW r:=by have:=s.drop 1;rw[f]at this;exact this
    by_cases H:1+m>=E
    ·rw[yT (by simp;omega),AA,BD]
     have:r[m]?=none:=MP (by omega);rw[this,AP (by simp)];rfl
    ·rw[yI (by simp;omega),Zo a (i:=1+m) (by omega),AA,d]
     have I:(c::r).getD (1+m) 0=r.getD m 0:=by rw[KU];rfl
     rw[I];have n:r[m]?=some (r.getD m 0):=by rw[IC,CJ (by omega)];rfl
     rw[n];by_cases hz:r.getD m 0=0
     ·rw[yI (by simpa using hz),AA,AQ (by rw[hz])]
      simp only[zTd];by_cases w:(wS D l).length>32
      ·rw[yT (by simp;omega),AQ w]
      ·rw[yI (by simp;omega),AP w,zy (by omega)]
       grind
     ·rw[yT (by simpa using hz),AA,BD,AP (by simpa using hz)]
      rfl
def zVe{y z t:Int}(h:0<=J/\J<=255)(hy:0<=y/\y<=255)(hz:0<=z/\z<=255)(j:0<=t/\t<=255):zAR [J,y,z,t]=some (J+256*y+65536*z+16777216*t):=by
 have d:∀(a b c:Int),0<=a->a<16777216->0<=b/\b<=255->c=b+a*256->wrap .u64 ((wrap .u64 (256*a))+(wrap .u64 b))=c:=λa b c p q r s=>by rw[bY (x:=256*a) (by omega) (by omega),bY (x:=b) (by omega) (by omega),bY (by omega) (by omega)];omega
 obtain⟨e,u⟩:∃v,v=z+t*256:=⟨_,rfl⟩;obtain⟨f,w⟩:∃v,v=y+e*256:=⟨_,rfl⟩;obtain⟨g,e4⟩:∃v,v=J+f*256:=⟨_,rfl⟩;rw[show J+256*y+65536*z+16777216*t=g by omega];have k:=d 0 t t (by omega) (by omega) j (by omega);have l:=d t z e (by omega) (by omega) hz (by omega);have m:=d e y f (by omega) (by omega) hy (by omega);have n:=d f J g (by omega) (by omega) h (by omega);refine xM (λi=>(([0,t,e,f,g].getD i 0:Int),(3:Int)-(i:Int))) 4 g O (λi A=>?_) O O;have o:i=0\/i=1\/i=2\/i=3:=by omega
 rcases o with rfl|rfl|rfl|rfl
 ·show some (wZ.next (wrap .u64 ((wrap .u64 (256*(0:Int)))+(wrap .u64 t)),_))=_
  rw[k];rfl
 ·show some (wZ.next (wrap .u64 ((wrap .u64 (256*t))+(wrap .u64 z)),_))=_
  rw[l];rfl
 ·show some (wZ.next (wrap .u64 ((wrap .u64 (256*e))+(wrap .u64 y)),_))=_
  rw[m];rfl
 ·show some (wZ.next (wrap .u64 ((wrap .u64 (256*f))+(wrap .u64 J)),_))=_
  rw[n];rfl
def cP(b:List Int):Int:=match pB b with
 |none=>0|some (g,_,_)=>g
theorem zMm(c:EW F)(d:64<=F.length):rL F=some (cP F):=by
 have e4:CO F 4=some (F.getD 4 0):=gI (i:=4) (by omega)
 have g:Go.Proofs.YtjconpohbhlcmaaGreatDoor.sub F 0 4=some [F.getD 0 0,F.getD 1 0,F.getD 2 0,F.getD 3 0]:=by
  have:=dF (l:=F) (a:=0) (b:=4) (by omega) (by omega);rw[show(0:Int)=((0:Nat):Int)from O,show(4:Int)=((4:Nat):Int)from O,this]
  match F,d with
  |x::y::z::t::r,_=>rfl
 have h:=c.get 0;have j:=c.get 1;have k:=c.get 2;have m:=c.get 3;unfold rL;rw[g,AA,zVe h j k m,AA,e4];simp only[AA];rw[show F.getD 0 0+256*F.getD 1 0+65536*F.getD 2 0+16777216*F.getD 3 0=VX F from O,yF (by unfold VX;omega) (by unfold VX;omega)];unfold cP pB;by_cases e:F.getD 4 0≠0
 ·rw[AQ (.inl e),yT (by simpa using e),AA];rfl
 ·rw[yI (by simpa using e)]
  by_cases f:VX F<1
  ·simp_all
  ·rw[yI (by simpa using f),AA]
   grind
def eL(f:Nat)(o:OS):zG:=⟨true,(f:Int),o.act,o.gen,o.K,o.tail,false⟩
def zKb(d:zB)(b e:Nat):zG->Option (wZ zG ((yB×(Option zG)×Int)⊕Unit)):=
 (λ(a:zG)=>bnd (aF (toF d).Data.length b e a.Tail ((e:Nat):Int)) λf=>bnd (qB (toF d).Data (b+(Int.toNat a.Tail)) f a.Keys) λc=>bif !c.2.2 then some (.done (.inl (toF d,(some a),0)))else some (.next (⟨a.F_,a.First,a.Active,a.Gen,c.1,wrap .i64 (a.Tail+c.2.1),a.PE⟩:zG)))
theorem zRA{d:zB}(h:JD d){base z:Nat}(hz:base+z<=d.bytes.length)(F A G:Int):∀(f t:Nat) (K:List zF),z-t<=f->t<=z->QM K->
  zZ (zKb d base z) (⟨true,F,A,G,K,(t:Int),false⟩:zG)=some (.inl (toF d,some ⟨true,F,A,G,(oZ ((prt d.bytes base z).drop t) K t).1,((oZ ((prt d.bytes base z).drop t) K t).2:Int),false⟩,0))
 |f,t,K,g,o,i=>by
  have q:=h.bound;have e:=(zJQ h.EW base z).drop t
  have j:prt d.bytes (base+t) (z-t)=(prt d.bytes base z).drop t:=by unfold prt;rw[LD,IV]
  rw[dG e]
  have a:zKb d base z (⟨true,F,A,G,K,(t:Int),false⟩:zG)=some (match qS ((prt d.bytes base z).drop t)with
    |none=>.done (.inl (toF d,some (⟨true,F,A,G,K,(t:Int),false⟩:zG),0))|some (l,n)=>if(wS K l).length>32 then .done (.inl (toF d,some (⟨true,F,A,G,K,(t:Int),false⟩:zG),0))else .next (⟨true,F,A,G,wS K l,((t+n:Nat):Int),false⟩:zG)):=by
   unfold zKb
   have hp:aF (toF d).Data.length base z (t:Int) (z:Int)=some (z-t):=by unfold aF;rw[AQ (by exact hz),AQ ⟨by omega,by omega,by omega⟩];rfl
   rw[hp,AA,show Int.toNat (t:Int)=t from O,show(toF d).Data=d.bytes from O,yBL h.EW (by omega) (by omega) i.Tj i.len,AA,j];cases b:qS ((prt d.bytes base z).drop t)with
   |none=>rfl|some p=>
    obtain⟨l,n⟩:=p;have k:=nQ e b;simp only[EM,Zn hz]at k;simp only[zTd];by_cases c:(wS K l).length>32
    ·grind
    ·rw[AP c,AP c]
     simp only;rw[zy (by omega)];rfl
  cases b:qS ((prt d.bytes base z).drop t)with
  |none=>
   rw[b]at a;exact yV a
  |some p=>
   obtain⟨l,n⟩:=p;have k:=nQ e b;have m:=zIE e b;simp only[EM,Zn hz]at k;rw[b]at a;simp only at a⊢;split
   ·rename_i c
    rw[AQ c]at a;exact yV a
   ·rename_i c
    rw[AP c]at a
    match f,g with
    |0,g=>omega|f+1,g=>
     rw[IV];exact xV a (zRA h hz F A G f (t+n) (wS K l) (by omega) (by omega) (i.all m.2.2 (by omega)))
def zXj(d:zB)(k:Nat):xZ d k=prt d.bytes (k*d.size.toNat) d.size.toNat:=rfl
theorem zLH(h:JD S)(N:S.down=false)(hz:1024<=S.size){f:Nat}(G:f+1<S.BO.length):lT (toF S) (f:Int)=some (toF S,some (eL f (DU S f)),0):=by
 have hb:=h.bound;have hw:=h.BO;have P:=h.size;obtain⟨z,y⟩:∃z:Nat,S.size=(z:Int):=⟨S.size.toNat,by omega⟩;have A:S.size.toNat=z:=by omega
 have m:∀k,k<S.BO.length->k*z+z<=S.bytes.length:=λk B=>by rw[<-A];exact uE h B
 have e:∀k:Nat,(k:Int)*(z:Int)=((k*z:Nat):Int):=λk=>by simp
 have q:∀k:Nat,(k+1)*z=k*z+z:=λk=>by rw[FU,QG]
 have a:∀(i:Nat),f+i<S.BO.length->rO (toF S).Data.length (wrap .i64 ((wrap .i64 ((f:Int)+(i:Int)))*(toF S).Size)) (wrap .i64 ((wrap .i64 ((wrap .i64 ((f:Int)+(i:Int)))+1))*(toF S).Size))=some z/\wrap .i64 ((wrap .i64 ((f:Int)+(i:Int)))*(toF S).Size)=(((f+i)*z:Nat):Int):=by
  intro i o;have b:=m (f+i) o;rw[show(toF S).Size=S.size from O,show(toF S).Data=S.bytes from O,y,zy (x:=(f:Int)+(i:Int)) (by omega),zy (x:=(f:Int)+(i:Int)+1) (by omega),show(f:Int)+(i:Int)=((f+i:Nat):Int)by omega,show((f+i:Nat):Int)+1=((f+i+1:Nat):Int)by omega,e,e,q,zy (by omega),zy (by omega)];refine⟨?_,O⟩;unfold rO
  grind
 have j:∀(i:Nat),f+i<S.BO.length->Go.Proofs.YtjconpohbhlcmaaGreatDoor.sub (toF S).Data (((f+i)*z:Nat):Int) (((f+i)*z+z:Nat):Int)=some (xZ S (f+i)):=by intro i o;have b:=m (f+i) o;rw[dF (by omega) (by exact b)];congr 1;unfold xZ;rw[A];show(S.bytes.drop ((f+i)*z)).take ((f+i)*z+z-(f+i)*z)=_;rw[OD]
 have l:∀(i:Nat),f+i<S.BO.length->rL (xZ S (f+i))=some (cP (xZ S (f+i))):=λi o=>
  zMm (mU h _) (by rw[oF h o];omega)
 obtain⟨H,I⟩:=a 0 (by omega);obtain⟨J,L⟩:=a 1 (by omega);have Q:((0:Nat):Int)=0:=rfl;have R:((1:Nat):Int)=1:=rfl;rw[Q]at H I;rw[R]at J L;unfold lT;rw[yI (by simp<;>omega),AA,show(toF S).EN=S.BO from O,yF (x:=(S.BO.length:Int)-1) (by omega) (by omega),yI (by simp<;>omega),yI (by show decide (S.size<1024)=false;simp;omega),yI (by exact N)];rw[H,AA,I];have T:Int.toNat (((f+0)*z:Nat):Int)=(f+0)*z:=rfl;have U:Int.toNat (((f+1)*z:Nat):Int)=(f+1)*z:=rfl;rw[T,j 0 (by omega),AA,l 0 (by omega),AA]
 have C:(bif decide (cP (xZ S (f+0))>0)then some (⟨true,(f:Int),0,cP (xZ S (f+0)),[],0,false⟩:zG)else some (⟨true,(f:Int),(-1),0,[],0,false⟩:zG))=some (if cP (xZ S (f+0))>0 then(⟨true,(f:Int),0,cP (xZ S (f+0)),[],0,false⟩:zG)else(⟨true,(f:Int),(-1),0,[],0,false⟩:zG)):=by
  by_cases v:cP (xZ S (f+0))>0
  ·rw[yT (by simpa using v),AQ v]
  ·grind
 rw[C,AA,J,AA,L,U,j 1 G,AA,l 1 G,AA]
 have d:∀(i:Nat) (g:Int) (K:List zF) (t:Nat),i<2->pB (xZ S (f+i))=some (g,K,t)->
   bnd (rO (toF S).Data.length (wrap .i64 ((wrap .i64 ((f:Int)+(i:Int)))*(toF S).Size)) (wrap .i64 ((wrap .i64 ((wrap .i64 ((f:Int)+(i:Int)))+1))*(toF S).Size))) (λV=>bnd (zZ (zKb S (Int.toNat (wrap .i64 ((wrap .i64 ((f:Int)+(i:Int)))*(toF S).Size))) V) (⟨true,(f:Int),(i:Int),g,[],5,false⟩:zG)) λW=>xX W λo5=>none)=some (toF S,some (eL f (Bz (i:Int) (xZ S (f+i)) g K t)),0):=by
  intro i g K t o r;obtain⟨_,_,_,_,B⟩:=gC r;obtain⟨X,Y⟩:=a i (by omega);have b:=m (f+i) (by omega);rw[X,AA,Y];have M:=zRA h (base:=(f+i)*z) (z:=z) b (f:Int) (i:Int) g (z-5) 5 [] (FN _) (by omega) QM.nil;have D:prt S.bytes ((f+i)*z) z=xZ S (f+i):=by rw[zXj,A]
  rw[D,B]at M;exact yL M O
 have s:=cR (xZ S (f+0)) (xZ S (f+1));have Z:DU S f=ZU (xZ S (f+0)) (xZ S (f+1)):=kE S f;rw[Z];rcases s with⟨n,b,u⟩|⟨g,K,t,n,b,u⟩|⟨g,K,t,b,n,u⟩
 ·rw[u]
  have g0:cP (xZ S (f+0))=0:=by unfold cP;rw[n]
  have w:cP (xZ S (f+1))=0:=by unfold cP;rw[b]
  rw[g0,w,AP (by omega)];rfl
 ·rw[u]
  have v:=gC n;have g0:cP (xZ S (f+0))=g:=by unfold cP;rw[n]
  have w:cP (xZ S (f+1))<=g:=by
   unfold cP;cases r:pB (xZ S (f+1))with
   |none=>simp only;omega|some p=>exact b p r
  rw[g0,AQ (by omega),yI (by simp;omega),AA,yI (by simp)];exact d 0 g K t (by omega) n
 ·rw[u]
  have v:=gC b;have w:cP (xZ S (f+1))=g:=by unfold cP;rw[b]
  have g0:cP (xZ S (f+0))<g:=by
   unfold cP;cases r:pB (xZ S (f+0))with
   |none=>simp only;omega|some p=>exact n p r
  rw[w];have E:(if cP (xZ S (f+0))>0 then(⟨true,(f:Int),0,cP (xZ S (f+0)),[],0,false⟩:zG)else(⟨true,(f:Int),(-1),0,[],0,false⟩:zG)).Gen<g:=by split<;>simp only<;>omega
  rw[yT (by simpa using E),AA];have F:∀c:Prop,[Decidable c]->(⟨(if c then(⟨true,(f:Int),0,cP (xZ S (f+0)),[],0,false⟩:zG)else(⟨true,(f:Int),(-1),0,[],0,false⟩:zG)).F_,(if c then(⟨true,(f:Int),0,cP (xZ S (f+0)),[],0,false⟩:zG)else(⟨true,(f:Int),(-1),0,[],0,false⟩:zG)).First,1,g,(if c then(⟨true,(f:Int),0,cP (xZ S (f+0)),[],0,false⟩:zG)else(⟨true,(f:Int),(-1),0,[],0,false⟩:zG)).Keys,(if c then(⟨true,(f:Int),0,cP (xZ S (f+0)),[],0,false⟩:zG)else(⟨true,(f:Int),(-1),0,[],0,false⟩:zG)).Tail,(if c then(⟨true,(f:Int),0,cP (xZ S (f+0)),[],0,false⟩:zG)else(⟨true,(f:Int),(-1),0,[],0,false⟩:zG)).PE⟩:zG)=⟨true,(f:Int),1,g,[],0,false⟩:=λc _=>by split<;>rfl
  rw[F,yI (by simp)];exact d 1 g K t (by omega) b
def Ui(r:zG):zG:=⟨r.F_,r.First,r.Active,0,[],r.Tail,true⟩
def Zq(r:zG):uB r=some (Ui r,10):=rfl
def zHL(e:zG)(b:List zF):Int->Option (wZ Int ((zG×Int)⊕Unit)):=
 (λ(a:Int)=>bif decide (a<(b.length:Int))then bnd (bnd (CO b a) λc=>bif decide ((c.Value.length:Int)>28)then some true else bif c.Delete then some (decide ((c.Value.length:Int)>0))else some false:Option Bool) λf=>bif f then some (.done (.inl (e,1)))else(bnd (zZ (τ:=(zG×Int)⊕Unit) (λ(d:Int)=>bif decide (d<a)then bnd (CO b d) λg=>bnd (CO b a) λh=>bif(g.Key==h.Key)then some (.done (.inl (e,7)))else(some (.next (wrap .i64 (d+1))))else some (.done (.inr ()))) 0) λi=>Rf (λj=>(.done (.inl j))) i λk=>some (.next (wrap .i64 (a+1))))else some (.done (.inr ())))
def zUi(r:zG)(e:Int):(zG×Int)⊕Unit:=if e=0 then .inr ()else .inl (r,e)
theorem zNX{r:zG}{l:List zF}(n:l.length<=1000000):∀(k i:Nat) (a:List Int),i+k=l.length->(∀q,q∈a↔∃j,j<i/\(l[j]?.map (·.Key))=some q)->
  zZ (zHL r l) (i:Int)=some (zUi r (ni a (l.drop i)))
 |0,i,a,h,_=>by refine yV ?_;unfold zHL;rw[yI (by simp;omega),MN (by omega)];rfl|k+1,i,a,h,o=>by
  have g:i<l.length:=by omega
  have p:l.drop i=l[i]::l.drop (i+1):=(MO (h:=g)).symm;rw[p]
  have b:zHL r l (i:Int)=some (if l[i].Value.length>28\/(l[i].Delete=true/\l[i].Value.length>0)then .done (.inl (r,1))else if l[i].Key∈a then .done (.inl (r,7))else .next ((i+1:Nat):Int)):=by
   unfold zHL;rw[yT (by simp;omega),yN g,AA]
   have s:(bif decide ((l[i].Value.length:Int)>28)then some true else bif l[i].Delete then some (decide ((l[i].Value.length:Int)>0))else some false:Option Bool)=some (decide (l[i].Value.length>28\/(l[i].Delete=true/\l[i].Value.length>0))):=by
    by_cases c:l[i].Value.length>28
    ·grind
    ·rw[yI (by simp;omega)]
     cases t:l[i].Delete
     ·grind
     ·rw[BD]
      congr 1;simp[c]
   rw[s,AA];by_cases c:l[i].Value.length>28\/(l[i].Delete=true/\l[i].Value.length>0)
   ·grind
   ·rw[BV c,BB,AP c]
    refine uA (λk=>(k:Int)) i (λk=>(l[k]?.map (·.Key))==some l[i].Key) (.inl (r,7)) (.inr ()) O (λj u=>?_) ?_ ?_
    ·have d:j<l.length:=by omega
     rw[yT (by simp;omega),yN d,AA,AA,CJ d];by_cases m:l[j].Key=l[i].Key
     ·grind
     ·rw[yI (by simpa using m),zV d (by omega),yI (by simpa using m)]
    ·rw[yI (by simp)]
    ·by_cases f:l[i].Key∈a
     ·rw[AQ f]
      have:(List.range i).any (λk=>(l[k]?.map (·.Key))==some l[i].Key)=true:=by grind
      rw[this];rfl
     ·rw[AP f]
      have:(List.range i).any (λk=>(l[k]?.map (·.Key))==some l[i].Key)=false:=by grind
      rw[this,zV g (by omega)];rfl
  unfold ni;by_cases c:l[i].Value.length>28\/(l[i].Delete=true/\l[i].Value.length>0)
  ·rw[AQ c]at b
   rw[AQ c];exact yV b
  ·rw[AP c]at b
   rw[AP c];by_cases f:l[i].Key∈a
   ·rw[AQ f]at b
    rw[AQ f];exact yV b
   ·rw[AP f]at b
    rw[AP f];refine xV b (zNX n k (i+1) (l[i].Key::a) (by omega) λq=>?_);rw[EC,o];constructor
    ·rintro(rfl|⟨j,u,e⟩)
     ·exact⟨i,by omega,by rw[CJ g];rfl⟩
     ·exact⟨j,by omega,e⟩
    ·grind
theorem zPM{o:OS}(d:QM o.K)(a:D.length<=1000000):mC (eL h o) D (toF S)=some (if S.down then(Ui (eL h o),10)else if fM D≠0 then(eL h o,fM D)else if(wS o.K D).length>32 then(eL h o,3)else(eL h o,0)):=by
 unfold mC;rw[show(eL h o).PE=false from O,BB,show vZ (eL h o).F_=some true from O,AA,AA,show(toF S).Down=S.down from O];cases f:S.down
 ·rw[BB]
  unfold fM;by_cases b:D.length>32
  ·grind
  ·rw[yI (by simp;omega),AP b]
   have c:=zNX (r:=eL h o) (l:=D) a D.length 0 [] (by omega) (λq=>by simp);refine yL c ?_;rw[NR];unfold zUi;by_cases e:ni [] D=0
   ·rw[AQ e,FD,e,show(eL h o).Keys=o.K from O,zJg d.Tj (by have:=d.len;omega),AA]
    grind
   ·simp_all
 ·rfl
theorem zEf(g:D.length<=1000)(b:∀x∈D,x.Value.length<=1000):gA D=some (wR D):=by
 unfold gA
 have c:∀i,i<=D.length->(wrap .u8 (D.length:Int)::(D.take i).flatMap dZ).length<=1+i*1002:=λi a=>by
  have:=zTL (l:=D.take i) λx f=>b x (OE f)
  grind
 refine xM (λi=>(wrap .u8 (D.length:Int)::(D.take i).flatMap dZ,(i:Int))) D.length (wrap .u8 (D.length:Int)::D.flatMap dZ) O (λi a=>?_) ?_ ?_
 ·have d:=c i (by omega)
  have h:=b D[i] (DJ a);simp only;rw[yT (by simp;omega),yN a,AA,xA a,XJ];simp only[OI,YA,MB];have hE:∀(z:List Int),(wrap .u8 (D.length:Int)::((D.take i).flatMap dZ++z))=(wrap .u8 (D.length:Int)::(D.take i).flatMap dZ)++z:=λz=>O
  rw[hE];generalize e:wrap .u8 (D.length:Int)::(D.take i).flatMap dZ=pre at d⊢;unfold dZ;cases j:D[i].Delete
  ·simp only[BB]
   rw[AA,wF (by simp;omega) (by simp;omega),AA,wF (by simp;omega) (by simp;omega),AA,zV a (by omega)];simp
  ·rw[wF (by simp;omega) (by simp;omega),AA,zV a (by omega)]
   simp
 ·grind
 ·have d:=c D.length (FN _)
  rw[wF (by simp at*;omega) (by simp at*;omega),AA];rfl
def zVW(r:0<=J)(s:J<=4294967295):zAF J 4=some (VY J):=by
 obtain⟨n,rfl⟩:∃n:Nat,J=(n:Int):=⟨J.toNat,by omega⟩;have e8:(8:Int)=((8:Nat):Int):=rfl;have a:(16:Int)=((16:Nat):Int):=rfl;have b:(24:Int)=((24:Nat):Int):=rfl;have f:2^8=256:=rfl;have c:2^16=65536:=rfl;have g:2^24=16777216:=rfl;have t:IntKind.bits .i64=64:=rfl;unfold VY;rw[e8,a,b,cO (by omega),cO (by omega),cO (by omega),f,c,g];have h:∀k:Nat,(k:Int).tmod 256=((k%256:Nat):Int):=λk=>O
 have j:∀k:Nat,(k:Int).tdiv 256=((k/256:Nat):Int):=λk=>O
 have st:∀(k:Nat) (L:List Int) (i:Nat),i<4->L.length<=4->k<=4294967295->(bif decide (((k:Int),L,(i:Int)).2.2<4)then bnd (app 1 ((k:Int),L,(i:Int)).2.1 [wrap .u8 (((k:Int),L,(i:Int)).1.tmod 256)]) λl=>some (wZ.next (wrap .u64 (((k:Int),L,(i:Int)).1.tdiv 256),l,wrap .i64 (((k:Int),L,(i:Int)).2.2+1)):wZ (Int×List Int×Int) (List Int))else some (.done ((k:Int),L,(i:Int)).2.1))=some (.next (((k/256:Nat):Int),L++[((k%256:Nat):Int)],((i+1:Nat):Int))):=by intro k L i u v w;rw[yT (by simp;omega),h,j,dQ (by omega),eA (by omega),wF (by simp;omega) (by simp;omega),AA,Tz (by omega)]
 have m:n/256/256=n/65536:=by omega
 have o:n/65536/256=n/16777216:=by omega
 have p:=st n [] 0 (by omega) (by simp) (by omega);have d:=st (n/256) [((n%256:Nat):Int)] 1 (by omega) (by simp) (by omega);have e:=st (n/65536) [((n%256:Nat):Int),((n/256%256:Nat):Int)] 2 (by omega) (by simp) (by omega);have q:=st (n/16777216) [((n%256:Nat):Int),((n/256%256:Nat):Int),((n/65536%256:Nat):Int)] 3 (by omega) (by simp) (by omega);rw[m]at d;rw[o]at e;exact yL (xV p (xV d (xV e (xV q (yV O))))) O
def zBp(h:0<=J/\J+F.length<=S.bytes.length):(yO S J F).2=0\/(yO S J F).2=10:=by
 unfold yO;split
 ·omega
 ·rw[AQ ⟨by omega,by omega⟩]
  exact Xi _ _ _
theorem zVa(h:0<=J/\J<S.BO.length):(tJ S J).2=0\/(tJ S J).2=10:=by
 unfold tJ
 grind
structure OkR(o:OS)(d:zB)(f:Nat):Prop where
 oo:Ye o
 clean:0<=o.act->o.clean=sG ((xZ d (f+o.act.toNat)).drop o.tail.toNat)/\o.tail<=d.size
 none:o.act<0->o.gen=0
def zXR(a:JD S)(hz:1024<=S.size)(i:h+1<S.BO.length):OkR (DU S h) S h:=by
 have j:=Yj a hz i;refine⟨j,λc=>?_,λc=>?_⟩
 ·rw[kE]at*
  have l:=oF a (k:=h) (by omega);have m:=oF a (k:=h+1) i;rcases cR (xZ S h) (xZ S (h+1))with⟨d,e,b⟩|⟨g,K,t,d,e,b⟩|⟨g,K,t,e,d,b⟩
  ·rw[b]at c;exact absurd c (by decide)
  ·rw[b]
   obtain⟨_,_,_,_,f⟩:=gC d;have:=(zKB (mU a h)).2;rw[f]at this;simp at this;exact⟨O,by show(t:Int)<=S.size;omega⟩
  ·rw[b]
   obtain⟨_,_,_,_,f⟩:=gC e;have:=(zKB (mU a (h+1))).2;rw[f]at this;simp at this;exact⟨O,by show(t:Int)<=S.size;omega⟩
 ·rw[kE]at*
  rcases cR (xZ S h) (xZ S (h+1))with⟨d,e,b⟩|⟨g,K,t,d,e,b⟩|⟨g,K,t,e,d,b⟩
  ·rw[b];rfl
  ·rw[b]at c;exact absurd c (by show¬(0:Int)<0;omega)
  ·rw[b]at c;exact absurd c (by show¬(1:Int)<0;omega)
def yBE(r:zG)(f:Nat)(o:Option OS):Prop:=match o with
 |none=>r.PE=true/\r.Keys=[]/\r.Gen=0|some o=>r=eL f o
def zRd{f:Nat}{o o':OS}{r:zB×Int}(h:r.2=0\/r.2=10):∃a,(if r.2=0 then some (eL f o',toF r.1,0)else some (Ui (eL f o),toF r.1,10))=some (a,toF (WE o o' r).2.1,(WE o o' r).2.2)/\yBE a f (WE o o' r).1:=by
 unfold WE;rcases h with h|h
 ·rw[AQ h,AQ h]
  exact⟨_,O,O⟩
 ·rw[AP (by omega),AP (by omega),AQ h]
  exact⟨_,O,O,O,O⟩
def zOe{o:OS}{l:List zF}(hR:OkR o S h)(i:JD S)(hz:1024<=S.size)(hf:h+1<S.BO.length)(hll:l.length<=1000000)(hl:∀x∈l,0<=x.Key/\x.Key<=255/\EW x.Value):∃r',xL (eL h o) l (toF S)=some (r',toF (ZK o S h l).2.1,(ZK o S h l).2.2)/\yBE r' h (ZK o S h l).1:=by
 have U:=hR.oo;have hw:=i.BO;have hsz:=i.size;have hb:=i.bound;have hot:=U.tail;have hoa:=U.act;have hog:=U.gen;obtain⟨z,F⟩:∃z:Nat,S.size=(z:Int):=⟨S.size.toNat,by omega⟩;have d:S.size.toNat=z:=by rw[F];rfl
 unfold xL ZK;rw[zPM U.K hll,AA];cases hd:S.down
 case true=>exact⟨_,rfl,rfl,rfl,rfl⟩
 rw[AP (show¬(false=true)by decide),AP (show¬(false=true)by decide)];by_cases hc:fM l≠0
 ·rw[AQ hc,AQ hc,yT (by simpa using hc)]
  exact⟨_,O,O⟩
 have hc0:fM l=0:=by omega
 rw[AP hc,AP hc];by_cases G:l=[]
 ·subst G
  rw[AP (by show¬o.K.length>32;have:=U.K.len;omega),AQ O];exact⟨_,O,O⟩
 rw[AP G];have hpos:0<l.length:=OH.2 G;have A:=Y8 hc0;have PN:∀x∈l,ZT x:=λx B=>⟨⟨(hl x B).1,(hl x B).2.1⟩,(A.2 x B).1,(hl x B).2.2,(A.2 x B).2⟩
 by_cases Q:(wS o.K l).length>32
 ·rw[AQ Q,AQ Q,yT (by rfl)]
  exact⟨_,O,O⟩
 rw[AP Q,AP Q,yI (by rfl),yI (by simp;omega)];have C:QM (wS o.K l):=U.K.all PN (by omega);have hel:=Tn A.1 PN;have her:=iD A.1 PN;rw[yBZ ⟨hll,λx B=>by have:=(A.2 x B).1;omega⟩,AA,show(eL h o).Keys=o.K from O,zJg U.K.Tj (by have:=U.K.len;omega),AA,zEf (by omega) (λx B=>by have:=(A.2 x B).1;omega),AA];rw[show(eL h o).Active=o.act from O,show(eL h o).First=(h:Int)from O,show(eL h o).Tail=o.tail from O,show(eL h o).Gen=o.gen from O,show(eL h o).F_=true from O,show(eL h o).PE=false from O,show(toF S).Size=S.size from O,show(toF S).Data=S.bytes from O,show vZ true=some true from O];by_cases H:0<=o.act/\o.clean=true/\((wR l).length:Int)<=S.size-o.tail
 ·
  rw[AQ H];obtain⟨p,I,k⟩:=H;obtain⟨Ff,htl⟩:=hR.clean p;have q:h+o.act.toNat<S.BO.length:=by omega
  have y:=uE i q;rw[d]at y;have e1:wrap .i64 ((h:Int)+o.act)=((h+o.act.toNat:Nat):Int):=by rw[yF (by omega) (by omega)];omega
  have X:wrap .i64 (((h+o.act.toNat:Nat):Int)*S.size)=(((h+o.act.toNat)*S.size.toNat:Nat):Int):=by
   rw[d,F];have:(((h+o.act.toNat:Nat):Int)*(z:Int))=(((h+o.act.toNat)*z:Nat):Int):=by simp
   rw[this,xN (by omega)]
  obtain⟨r,hr⟩:∃r,yO S ((((h+o.act.toNat)*S.size.toNat:Nat):Int)+o.tail) (wR l)=r:=⟨_,rfl⟩;have s:r.2=0\/r.2=10:=by rw[<-hr];exact zBp ⟨by omega,by rw[d];omega⟩
  rw[hr];have hblk:=zRd (f:=h) (o:=o) (o':=⟨o.act,o.gen,wS o.K l,o.tail+((wR l).length:Int),o.clean⟩) s;obtain⟨r',Y,J⟩:=hblk;refine⟨r',?_,J⟩;rw[<-Y];refine yL (a:=.inl (if r.2=0 then(eL h ⟨o.act,o.gen,wS o.K l,o.tail+((wR l).length:Int),o.clean⟩,toF r.1,0)else(Ui (eL h o),toF r.1,10))) ?_ ?_
  ·rw[yT (by simpa using p),AA,e1,X,yF (x:=(((h+o.act.toNat)*S.size.toNat:Nat):Int)+o.tail) (by omega) (by rw[d];omega),yF (x:=(((h+o.act.toNat)*S.size.toNat:Nat):Int)+S.size) (by omega) (by rw[d];omega)]
   have hp:rO S.bytes.length ((((h+o.act.toNat)*S.size.toNat:Nat):Int)+o.tail) ((((h+o.act.toNat)*S.size.toNat:Nat):Int)+S.size)=some (z-o.tail.toNat):=by unfold rO;rw[AQ ⟨by omega,by omega,by rw[d];omega⟩];congr 1;rw[d];omega
   have V:Go.Proofs.YtjconpohbhlcmaaGreatDoor.sub S.bytes ((Int.toNat ((((h+o.act.toNat)*S.size.toNat:Nat):Int)+o.tail):Nat):Int) (((Int.toNat ((((h+o.act.toNat)*S.size.toNat:Nat):Int)+o.tail))+(z-o.tail.toNat):Nat):Int)=some ((xZ S (h+o.act.toNat)).drop o.tail.toNat):=by
    have L:Int.toNat ((((h+o.act.toNat)*S.size.toNat:Nat):Int)+o.tail)=(h+o.act.toNat)*S.size.toNat+o.tail.toNat:=by omega
    rw[L,dF (by omega) (by rw[d];omega),OD];congr 1;unfold xZ;rw[LD,IV,d]
   have u:((xZ S (h+o.act.toNat)).drop o.tail.toNat).length<=1000000:=by have:=oF i q;simp only[EM];omega
   rw[hp,AA,yT (by simp;omega),V,AA,aB u,AA,<-Ff,I,AA,BD,Zm i her,hr,AA];rcases s with h0|h0
   ·rw[yI (by simpa using h0),AQ h0,yF (by omega) (by omega)]
    rfl
   ·rw[yT (by simp[h0]),Zq,AA,AP (by omega)]
  ·rw[QK]
   split<;>rfl
 rw[AP H];by_cases hg:o.gen=2147483648
 ·have p:0<=o.act:=by
   by_cases p:0<=o.act
   ·exact p
   ·have:=hR.none (by omega);omega
  rw[AQ hg];refine⟨eL h o,?_,O⟩;obtain⟨Ff,htl⟩:=hR.clean p;have q:h+o.act.toNat<S.BO.length:=by omega
  have y:=uE i q;rw[d]at y;have e1:wrap .i64 ((h:Int)+o.act)=((h+o.act.toNat:Nat):Int):=by rw[yF (by omega) (by omega)];omega
  have X:wrap .i64 (((h+o.act.toNat:Nat):Int)*S.size)=(((h+o.act.toNat)*S.size.toNat:Nat):Int):=by
   rw[d,F];have:(((h+o.act.toNat:Nat):Int)*(z:Int))=(((h+o.act.toNat)*z:Nat):Int):=by simp
   rw[this,xN (by omega)]
  refine yL (a:=.inl (eL h o,toF S,3)) ?_ O;rw[yT (by simpa using p),AA,e1,X,yF (x:=(((h+o.act.toNat)*S.size.toNat:Nat):Int)+o.tail) (by omega) (by rw[d];omega),yF (x:=(((h+o.act.toNat)*S.size.toNat:Nat):Int)+S.size) (by omega) (by rw[d];omega)]
  have hp:rO S.bytes.length ((((h+o.act.toNat)*S.size.toNat:Nat):Int)+o.tail) ((((h+o.act.toNat)*S.size.toNat:Nat):Int)+S.size)=some (z-o.tail.toNat):=by unfold rO;rw[AQ ⟨by omega,by omega,by rw[d];omega⟩];congr 1;rw[d];omega
  have V:Go.Proofs.YtjconpohbhlcmaaGreatDoor.sub S.bytes ((Int.toNat ((((h+o.act.toNat)*S.size.toNat:Nat):Int)+o.tail):Nat):Int) (((Int.toNat ((((h+o.act.toNat)*S.size.toNat:Nat):Int)+o.tail))+(z-o.tail.toNat):Nat):Int)=some ((xZ S (h+o.act.toNat)).drop o.tail.toNat):=by
   have L:Int.toNat ((((h+o.act.toNat)*S.size.toNat:Nat):Int)+o.tail)=(h+o.act.toNat)*S.size.toNat+o.tail.toNat:=by omega
   rw[L,dF (by omega) (by rw[d];omega),OD];congr 1;unfold xZ;rw[LD,IV,d]
  have u:((xZ S (h+o.act.toNat)).drop o.tail.toNat).length<=1000000:=by have:=oF i q;simp only[EM];omega
  rw[hp,AA,V]
  have Z:(bif decide (((wR l).length:Int)<=((z-o.tail.toNat:Nat):Int))then bnd (some ((xZ S (h+o.act.toNat)).drop o.tail.toNat)) λl1=>bnd (nT l1) λr5=>some r5 else some false)=some false:=by
   by_cases k:((wR l).length:Int)<=((z-o.tail.toNat:Nat):Int)
   ·rw[yT (by simpa using k),AA,aB u,AA,<-Ff]
    congr 1;cases I:o.clean
    ·rfl
    ·exact absurd ⟨p,I,by omega⟩ H
   ·rw[yI (by simpa using k)]
  rw[Z,AA,BB,yT (by simpa using hg)]
 rw[AP hg];generalize hN:wS o.K l=N at C⊢;have hfirst:∀(blk:Option ((zG×yB×Int)⊕Bool)),blk=some (.inr true)->blk=some (.inr true):=λ_ i=>i
 have hk:h+vS o<S.BO.length:=by unfold vS;split<;>omega
 have y:=uE i hk;rw[d]at y;have Oy:vS o<=1:=by unfold vS;split<;>omega
 have hfo:wrap .i64 ((h:Int)+((vS o:Nat):Int))=((h+vS o:Nat):Int):=by rw[yF (by omega) (by omega)];omega
 have hoff:wrap .i64 (((h+vS o:Nat):Int)*S.size)=(((h+vS o)*S.size.toNat:Nat):Int):=by
  rw[d,F];have:(((h+vS o:Nat):Int)*(z:Int))=(((h+vS o)*z:Nat):Int):=by simp
  rw[this,xN (by omega)]
 have hoth:(bif(o.act==0)then some 1 else some 0:Option Int)=some ((vS o:Nat):Int):=by
  unfold vS;by_cases p:o.act=0
  ·rw[yT (by simpa using p),AQ p];rfl
  ·rw[yI (by simpa using p),AP p];rfl
 have hsl:(xZ S (h+vS o)).length=S.size.toNat:=oF i hk;obtain⟨v,j⟩:∃v,(if sG (xZ S (h+vS o))then(S,0)else tJ S ((h+vS o:Nat):Int))=v:=⟨_,rfl⟩
 have ok1:JD v.1/\v.1.size=S.size/\v.1.BO.length=S.BO.length/\v.1.bytes.length=S.bytes.length/\v.1.DT=S.DT:=by
  rw[<-j];split
  ·exact⟨i,O,O,O,O⟩
  ·exact zIJ i _
 have er1:v.2=0\/v.2=10:=by
  rw[<-j];split
  ·exact .inl O
  ·exact zVa ⟨by omega,by omega⟩
 obtain⟨w,s⟩:∃w,(qR v λd1=>yO d1 (((h+vS o)*S.size.toNat:Nat):Int) (VY (o.gen+1)))=w:=⟨_,rfl⟩
 have R:JD w.1/\w.1.size=S.size/\w.1.BO.length=S.BO.length/\w.1.bytes.length=S.bytes.length/\w.1.DT=S.DT:=by rw[<-s];exact Y9 ok1 λe a b c g t=>Z4 a b c g t (Yf _) _
 have er2:w.2=0\/w.2=10:=by
  rw[<-s];unfold qR;split
  ·exact zBp ⟨by omega,by rw[ok1.2.2.2.1,d];show _+(4:Int)<=_;omega⟩
  ·exact er1
 obtain⟨m,D⟩:∃m,(qR w λd2=>if N=[]then(d2,0)else yO d2 ((((h+vS o)*S.size.toNat:Nat):Int)+5) (wR N))=m:=⟨_,rfl⟩;have aUp:=Tn C.len C.ok
 have Z5:JD m.1/\m.1.size=S.size/\m.1.BO.length=S.BO.length/\m.1.bytes.length=S.bytes.length/\m.1.DT=S.DT:=by
  rw[<-D];refine Y9 R λe a b c g t=>?_
  split
  ·exact⟨a,b,c,g,t⟩
  ·exact Z4 a b c g t (iD C.len C.ok) _
 have er3:m.2=0\/m.2=10:=by
  rw[<-D];unfold qR;split
  ·split
   ·exact .inl O
   ·exact zBp ⟨by omega,by rw[R.2.2.2.1,d];omega⟩
  ·exact er2
 obtain⟨P,E⟩:∃P,(qR m λd3=>yO d3 ((((h+vS o)*S.size.toNat:Nat):Int)+4) [0])=P:=⟨_,rfl⟩
 have er4:P.2=0\/P.2=10:=by
  rw[<-E];unfold qR;split
  ·exact zBp ⟨by omega,by rw[Z5.2.2.2.1,d];show _+(1:Int)<=_;omega⟩
  ·exact er3
 have hmo:lB o S h N=P:=by unfold lB;simp only;rw[j,s,D,E]
 rw[hmo];obtain⟨r',Y,J⟩:=zRd (f:=h) (o:=o) (o':=Tm o N) er4;refine⟨r',?_,J⟩;rw[<-Y];refine yL (a:=.inr true) ?_ ?_
 ·by_cases p:0<=o.act
  ·obtain⟨Ff,htl⟩:=hR.clean p
   have q:h+o.act.toNat<S.BO.length:=by omega
   have y:=uE i q;rw[d]at y;have e1:wrap .i64 ((h:Int)+o.act)=((h+o.act.toNat:Nat):Int):=by rw[yF (by omega) (by omega)];omega
   have X:wrap .i64 (((h+o.act.toNat:Nat):Int)*S.size)=(((h+o.act.toNat)*S.size.toNat:Nat):Int):=by
    rw[d,F];have:(((h+o.act.toNat:Nat):Int)*(z:Int))=(((h+o.act.toNat)*z:Nat):Int):=by simp
    rw[this,xN (by omega)]
   rw[yT (by simpa using p),AA,e1,X,yF (x:=(((h+o.act.toNat)*S.size.toNat:Nat):Int)+o.tail) (by omega) (by rw[d];omega),yF (x:=(((h+o.act.toNat)*S.size.toNat:Nat):Int)+S.size) (by omega) (by rw[d];omega)]
   have hp:rO S.bytes.length ((((h+o.act.toNat)*S.size.toNat:Nat):Int)+o.tail) ((((h+o.act.toNat)*S.size.toNat:Nat):Int)+S.size)=some (z-o.tail.toNat):=by unfold rO;rw[AQ ⟨by omega,by omega,by rw[d];omega⟩];congr 1;rw[d];omega
   have V:Go.Proofs.YtjconpohbhlcmaaGreatDoor.sub S.bytes ((Int.toNat ((((h+o.act.toNat)*S.size.toNat:Nat):Int)+o.tail):Nat):Int) (((Int.toNat ((((h+o.act.toNat)*S.size.toNat:Nat):Int)+o.tail))+(z-o.tail.toNat):Nat):Int)=some ((xZ S (h+o.act.toNat)).drop o.tail.toNat):=by
    have L:Int.toNat ((((h+o.act.toNat)*S.size.toNat:Nat):Int)+o.tail)=(h+o.act.toNat)*S.size.toNat+o.tail.toNat:=by omega
    rw[L,dF (by omega) (by rw[d];omega),OD];congr 1;unfold xZ;rw[LD,IV,d]
   have u:((xZ S (h+o.act.toNat)).drop o.tail.toNat).length<=1000000:=by have:=oF i q;simp only[EM];omega
   rw[hp,AA,V]
   have Z:(bif decide (((wR l).length:Int)<=((z-o.tail.toNat:Nat):Int))then bnd (some ((xZ S (h+o.act.toNat)).drop o.tail.toNat)) λl1=>bnd (nT l1) λr5=>some r5 else some false)=some false:=by
    by_cases k:((wR l).length:Int)<=((z-o.tail.toNat:Nat):Int)
    ·rw[yT (by simpa using k),AA,aB u,AA,<-Ff]
     congr 1;cases I:o.clean
     ·rfl
     ·exact absurd ⟨p,I,by omega⟩ H
    ·rw[yI (by simpa using k)]
   rw[Z,AA,BB,yI (by simpa using hg)]
  ·rw[yI (by simpa using p)]
 rw[FD,hoth,AA,show vZ true=some true from O,AA,hfo,hoff,yF (x:=(((h+vS o)*S.size.toNat:Nat):Int)+S.size) (by omega) (by rw[d];omega)]
 have hp:rO S.bytes.length (((h+vS o)*S.size.toNat:Nat):Int) ((((h+vS o)*S.size.toNat:Nat):Int)+S.size)=some z:=by unfold rO;rw[AQ ⟨by omega,by omega,by rw[d];omega⟩];congr 1;rw[d];omega
 have V:Go.Proofs.YtjconpohbhlcmaaGreatDoor.sub S.bytes ((Int.toNat (((h+vS o)*S.size.toNat:Nat):Int):Nat):Int) (((Int.toNat (((h+vS o)*S.size.toNat:Nat):Int))+z:Nat):Int)=some (xZ S (h+vS o)):=by
  have L:Int.toNat (((h+vS o)*S.size.toNat:Nat):Int)=(h+vS o)*S.size.toNat:=by omega
  rw[L,dF (by omega) (by rw[d];omega),OD];unfold xZ;rw[d]
 have hgw:wrap .i64 (o.gen+1)=o.gen+1:=yF (by omega) (by omega);by_cases T:v.2=0
 rotate_left
 ·have X:w=v:=by rw[<-s];unfold qR;rw[AP T]
  have L:m=v:=by rw[<-D,X];unfold qR;rw[AP T]
  have e4:P=v:=by rw[<-E,L];unfold qR;rw[AP T]
  rw[e4,AP T];refine yL (a:=.inl (Ui (eL h o),toF v.1,10)) ?_ O;rw[hp,AA,V,AA,aB (by rw[hsl];omega),AA];cases M:sG (xZ S (h+vS o))
  ·rw[M,AP (by decide)]at j
   rw[IK,BD,zJd i _ (by omega),AA,j,yT (by simpa using T),Zq,AA]
  ·rw[M,AQ O]at j
   rw[<-j]at T;exact absurd O T
 refine yL (a:=.inr (toF v.1)) ?_ ?_
 ·rw[hp,AA,V,AA,aB (by rw[hsl];omega),AA]
  cases M:sG (xZ S (h+vS o))
  ·rw[M,AP (by decide)]at j
   rw[IK,BD,zJd i _ (by omega),AA,j,yI (by simpa using T)]
  ·rw[M,AQ O]at j
   rw[<-j];rfl
 have hr2':yO v.1 (((h+vS o)*S.size.toNat:Nat):Int) (VY (o.gen+1))=w:=by rw[<-s];unfold qR;rw[AQ T]
 rw[FD,hgw,bY (x:=o.gen+1) (by omega) (by omega),zVW (by omega) (by omega),AA,Zm ok1.1 (Yf _),AA,hr2'];by_cases h2:w.2=0
 rotate_left
 ·have L:m=w:=by rw[<-D];unfold qR;rw[AP h2]
  have e4:P=w:=by rw[<-E,L];unfold qR;rw[AP h2]
  rw[e4,AP h2,yT (by simpa using h2),Zq,AA]
 rw[yI (by simpa using h2)];have W:(if N=[]then(w.1,0)else yO w.1 ((((h+vS o)*S.size.toNat:Nat):Int)+5) (wR N))=m:=by rw[<-D];unfold qR;rw[AQ h2]
 by_cases h3:m.2=0
 rotate_left
 ·have e4:P=m:=by rw[<-E];unfold qR;rw[AP h3]
  rw[e4,AP h3];have n:N≠[]:=λe=>by rw[AQ e]at W;rw[<-W]at h3;exact h3 O
  have Zt:0<N.length:=OH.2 n;rw[AP n]at W;refine yL (a:=.inl (Ui (eL h o),toF m.1,10)) ?_ O;rw[yT (by simp;omega),zEf (by have:=C.len;omega) (λx B=>by have:=(C.ok x B).len;omega),AA,yF (x:=(((h+vS o)*S.size.toNat:Nat):Int)+5) (by omega) (by rw[d];omega),Zm R.1 (iD C.len C.ok),AA,W,yT (by simpa using h3),Zq,AA]
 refine yL (a:=.inr (5+(if N=[]then 0 else((wR N).length:Int)),toF m.1)) ?_ ?_
 ·by_cases n:N=[]
  ·rw[AQ n]at W
   rw[AQ n,yI (by rw[n];rfl),<-W];rfl
  ·have Zt:0<N.length:=OH.2 n
   rw[AP n]at W;rw[AP n,yT (by simp;omega),zEf (by have:=C.len;omega) (λx B=>by have:=(C.ok x B).len;omega),AA,yF (x:=(((h+vS o)*S.size.toNat:Nat):Int)+5) (by omega) (by rw[d];omega),Zm R.1 (iD C.len C.ok),AA,W,yI (by simpa using h3),yF (by omega) (by omega)]
 have aE1:yO m.1 ((((h+vS o)*S.size.toNat:Nat):Int)+4) [0]=P:=by rw[<-E];unfold qR;rw[AQ h3]
 rw[FD,yF (x:=(((h+vS o)*S.size.toNat:Nat):Int)+4) (by omega) (by rw[d];omega)];show bnd (vE (toF m.1) _ [0]) _=_;rw[Zm Z5.1 (EW.cons (by decide) EW.nil),AA,aE1];by_cases h4:P.2=0
 ·rw[yI (by simpa using h4),AQ h4]
  rfl
 ·rw[yT (by simpa using h4),AP h4,Zq,AA]
def zVj{r:zG}{f:Nat}{o:OS}(h:yBE r f (some o))(d:QM o.K)(k:Int):kU r k=some ((nS o.K k).getD [],(nS o.K k).isSome):=by
 have l:r=eL f o:=h;subst l;have e:=d.len
 have:∀(n i:Nat),i+n=o.K.length->zZ (λ(c:Int)=>bif decide (c<(o.K.length:Int))then bnd (CO o.K c) λg=>bif(g.Key==k)then bnd (pH g.Value) λm=>some (.done (.inl (m,true)))else(some (.next (wrap .i64 (c+1))))else some (.done (.inr ()))) (i:Int)=some (match nS (o.K.drop i) k with|some v=>(.inl (v,true):(List Int×Bool)⊕Unit)|none=>.inr ()):=by
  intro n;induction n with
  |zero=>
   intro i p;rw[MN (by omega)];exact yV (by rw[yI (by simp;omega)];rfl)
  |succ n q=>
   intro i p;have a:i<o.K.length:=by omega
   rw[<-MO (h:=a),tF];by_cases b:o.K[i].Key=k
   ·rw[AQ b]
    refine yV ?_;rw[yT (by simp;omega),yN a,AA,yT (by simpa using b),zXU (by have:=(d.ok _ (DJ a)).len;omega),AA]
   ·rw[AP b]
    refine xV (s':=((i+1:Nat):Int)) ?_ (q (i+1) (by omega));rw[yT (by simp;omega),yN a,AA,yI (by simpa using b),zV a (by omega)]
 have j:=this o.K.length 0 (by omega);rw[NR]at j;refine yL j ?_;cases nS o.K k<;>rfl
def yCQ{s:zE}{o:OS}(b:ng s h o)(c:QM o.K)(k:Int):vM s k=some ((nS o.K k).getD [],(nS o.K k).isSome):=by
 obtain⟨m,d,i,f⟩:=b.all;unfold vM
 have e:tO (yW .u8).eq (s.all.getD []) k=nS o.K k:=by rw[d,<-f,Tf];rfl
 rw[e,gE]
 ·rfl
 ·cases a:nS o.K k with
  |none=>simp|some v=>
   unfold nS at a;obtain⟨x,g,rfl⟩:=LP.1 a;have:=(c.ok x (WT g)).len;simp;omega
def zQG(d:zA):fB d=some (qW d):=by
 unfold fB qW;simp only[Xm,AA];cases a:qO d
 ·rfl
 ·have:=((rN d).1 a).br
  simp only[ZQ _ this,EG,BB,AA,BD]
def eI(L:List zA):List zR:=L.map λd=>⟨d.Name,qW d⟩
def yCg(h:K.devices.length<=1000):wU K=some (eI K.devices):=by
 unfold wU
 have b:mkS 40 (⟨⟨#[]⟩,(⟨0,0,0⟩:zS)⟩:zR) 0 (K.devices.length:Int)=some []:=by unfold mkS;rw[AQ ⟨by omega,by omega,by omega,by omega⟩];rfl
 rw[b,AA];refine xM (λi=>((eI K.devices).take i,(i:Int))) K.devices.length (eI K.devices) O (λi a=>?_) ?_ O
 ·simp only
  rw[BK (by omega:(i:Int)<(K.devices.length:Int)),BD,yN a,AA,zHS,AA,wF (by simp[eI];omega) (by simp[eI];omega),AA,zV a (by omega),xA (l:=eI K.devices) (by simpa[eI]using a)];simp[eI]
 ·simp only
  rw[BV (by omega:¬(K.devices.length:Int)<(K.devices.length:Int)),BB,IU (by simp[eI])]
variable{V:zH}
def yAS(h:V.devices.length<=1000):uM V=some (eI V.devices):=by
 unfold uM;refine xM (λi=>((eI V.devices).take i,(i:Int))) V.devices.length (eI V.devices) O (λi a=>?_) ?_ O
 ·simp only
  rw[BK (by omega:(i:Int)<(V.devices.length:Int)),BD,yN a,AA,AA,AA,zQG,AA,wF (by simp[eI];omega) (by simp[eI];omega),AA,zV a (by omega),xA (l:=eI V.devices) (by simpa[eI]using a)];simp[eI]
 ·simp only
  rw[BV (by omega:¬(V.devices.length:Int)<(V.devices.length:Int)),BB,IU (by simp[eI])]
def yAT(h:K.devices.length<=1000)(b:∀d∈K.devices,vQ d):sM K=some K.devices:=by
 unfold sM
 have c:∀z:zA,Me 184 z 0 (K.devices.length:Int)=some []:=λz=>by unfold Me;rw[AQ ⟨by omega,by omega,by omega,by omega⟩];rfl
 rw[c,AA];refine xM (λi=>(K.devices.take i,(i:Int))) K.devices.length K.devices O (λi a=>?_) ?_ O
 ·simp only
  rw[BK (by omega:(i:Int)<(K.devices.length:Int)),BD,yN a,AA,zTN (b _ (DJ a)),AA,wF (by simp;omega) (by simp;omega),AA,zV a (by omega),xA a]
 ·simp only
  rw[BV (by omega:¬(K.devices.length:Int)<(K.devices.length:Int)),BB,GU]
def zIb(h:G.length<=1000):lZ G G=some true:=by
 unfold lZ;rw[show((G.length:Int) !=(G.length:Int))=false by simp,BB];refine xM (λi=>(i:Int)) G.length (.inr ()) O (λi a=>?_) ?_ O
 ·rw[BK (by omega:(i:Int)<(G.length:Int)),BD,yN a,AA,AA,zUR,AA,EG,BB,zV a (by omega)]
 ·rw[BV (by omega:¬(G.length:Int)<(G.length:Int)),BB]
def yBk(h:C.length<=1000):U5 C C=some true:=by
 unfold U5;rw[show((C.length:Int) !=(C.length:Int))=false by simp,BB];refine xM (λi=>(i:Int)) C.length (.inr ()) O (λi a=>?_) ?_ O
 ·rw[BK (by omega:(i:Int)<(C.length:Int)),BD,yN a,AA,AA,zV a (by omega)]
  simp
 ·rw[BV (by omega:¬(C.length:Int)<(C.length:Int)),BB]
def Qd(x:Int):Prop:=x=0\/x=1
structure RA(a:zD)(b:zH)(N:List zY):Prop where
 sa:a.store=true
 sb:b.store=true
 dev:b.devices=a.devices
 na:a.needs=N
 nb:b.needs=N
 ph:b.phase=a.phase
 p0:0<=a.phase/\a.phase<=3
 dl:a.phase=1->b.AZ=a.load/\∃z p,GD a.load z p
 jr:a.phase=2\/a.phase=3->b.mask=a.before/\b.order=a.order
 io:Qd a.phase->b.order=[]
def Qt(a c:zD)(b d:zH):Prop:=c=a/\d=b\/Qd a.phase/\Qd c.phase/\c.devices=a.devices
def Bth(a:zD)(b:zH)(N:List zY)(x:Option (zD×Int))(y:Option (zH×Int)):Prop:=
 ∃c d e,x=some (c,e)/\y=some (d,e)/\RA c d N/\Qt a c b d/\e≠10
def zKK(h:RA K V I)(s p:Int):Bth K V I (tX K s p) (pG V s p):=by
 unfold tX pG;obtain⟨a,b⟩:=zXE s p;rw[h.ph,a,b,AA,AA];have g:=h.p0;by_cases c:K.phase=2\/K.phase=3
 ·rw[show(K.phase==2||(K.phase==3||false))=true by simpa using c,BD,show(bif K.phase==2 then some true else some (K.phase==3):Option Bool)=some true by rcases c with c|c<;>rw[c]<;>rfl,AA,BD]
  exact⟨K,V,46,O,O,h,.inl ⟨O,O⟩,by decide⟩
 ·rw[show(K.phase==2||(K.phase==3||false))=false by simpa using c,BB,show(K.phase==2)=false by simpa usingλe=>c (.inl e),BB,show(K.phase==3)=false by simpa usingλe=>c (.inr e),AA,BB]
  by_cases e:(Iz s p).2=0
  ·rw[e]
   exact⟨_,_,0,O,O,⟨h.sa,h.sb,h.dev,h.na,h.nb,O,by simp,λ_=>⟨O,_,_,zZH e⟩,(λh=>by simp at h),λ_=>h.io (by unfold Qd;omega)⟩,.inr ⟨by unfold Qd;omega,.inr O,O⟩,by decide⟩
  ·have d:(Iz s p).2=2:=by
    unfold Iz at e⊢;split<;>rename_i f
    ·rw[AQ f]at e;exact absurd O e
    ·rfl
   rw[d];exact⟨K,V,2,O,O,h,.inl ⟨O,O⟩,by decide⟩
def zSB(h:RA K V I):Bth K V I (qC K) (sU V):=by
 unfold qC sU;rw[h.ph];by_cases c:K.phase=1
 ·rw[c]
  exact⟨_,_,0,O,O,⟨h.sa,h.sb,h.dev,h.na,h.nb,O,by simp,(λh=>by simp at h),(λh=>by simp at h),λ_=>h.io (.inr c)⟩,.inr ⟨.inr c,.inl O,O⟩,by decide⟩
 ·rw[show(K.phase !=1)=true by simpa using c,BD,BD]
  exact⟨K,V,46,O,O,h,.inl ⟨O,O⟩,by decide⟩
def zUS(h:RA K V I)(i:Int)(b:EW F)(d:F.length<=1000):Bth K V I (pA K i F) (lU V i F):=by
 unfold pA lU;rw[h.ph];by_cases c:K.phase=1
 ·obtain⟨f,z,p,a⟩:=h.dl c
  rw[f,yCI a i d,yCL a i d b,c,AA,AA];by_cases e:(Dc K.load z p i F).2=0
  ·rw[e]
   exact⟨_,_,0,O,O,⟨h.sa,h.sb,h.dev,h.na,h.nb,O,by simp,λ_=>⟨O,z,p,zZE a b e⟩,(λh=>by simp at h),λ_=>h.io (.inr c)⟩,.inr ⟨.inr c,.inr O,O⟩,by decide⟩
  ·have g:(Dc K.load z p i F).2≠10:=by
    unfold Dc;split
    ·simp
    split
    ·simp
    split<;>simp
   rw[show((Dc K.load z p i F).2==0)=false by simpa using e,show((Dc K.load z p i F).2 !=0)=true by simpa using e];exact⟨K,V,_,O,O,h,.inl ⟨O,O⟩,g⟩
 ·rw[show(K.phase !=1)=true by simpa using c,BD,BD]
  exact⟨K,V,46,O,O,h,.inl ⟨O,O⟩,by decide⟩
def zQx(h:RA K V I)(m:Int):∃l,oN K m=some l/\nF V m=some l/\l.length<=8192:=by
 unfold oN nF;rw[h.ph];by_cases c:K.phase=1
 ·obtain⟨b,z,p,a⟩:=h.dl c
  rw[b,yCr a,yAM a,c];exact⟨_,O,O,JU (zQs _ _ _) (by rw[a.hv];exact a.cz)⟩
 ·rw[show(K.phase !=1)=true by simpa using c,BD,BD]
  exact⟨[],O,O,by simp⟩
def zNI{M:List zY}(h:RA K V I)(k:K.devices.length<=8)(b:∀x∈K.devices,vQ x)(d:zB)(f:yB)(s:zE)(r:zG):wE ⟨true,true,true,true,M⟩ d f K s V r=some (V,true):=by
 obtain⟨l,e,g,m⟩:=zQx h 3
 have j:nM V.devices=some K.devices:=by rw[h.dev];exact zCZ (by omega) b
 unfold wE;simp only[show vZ true=some true from O,AA];rw[e,AA,g,AA];refine yL (a:=(false,V)) ?_ ?_
 ·rw[show((l.length:Int) !=(l.length:Int))=false by simp,BB]
  unfold qE mI wJ;rw[AA,AA,h.ph,show(K.phase !=K.phase)=false by simp,BB,yAT (by omega) b,AA,j,AA,AA,zIb (by omega),AA,EG,BB,yCg (by omega),AA,yAS (by rw[h.dev];omega),AA,h.dev,yBk (by simp[eI];omega),AA];rfl
 ·rw[BB]
  refine xM (λi=>(i:Int)) l.length (.inr ()) O (λi c=>?_) ?_ O
  ·rw[BK (by omega:(i:Int)<(l.length:Int)),BD,yN c,AA,AA,show(l[i] !=l[i])=false by simp,BB,zV c (by omega)]
  ·rw[BV (by omega:¬(l.length:Int)<(l.length:Int)),BB]
def Qt.trans{a b c:zD}{x y z:zH}(h:Qt a b x y)(k:Qt b c y z):Qt a c x z:=by
 rcases h with⟨rfl,rfl⟩|⟨d,f,e⟩
 ·exact k
 ·rcases k with⟨rfl,rfl⟩|⟨j,g,i⟩
  ·exact .inr ⟨d,f,e⟩
  ·exact .inr ⟨d,g,i.trans e⟩
def yAG(a:EW F)(d:F.length<=1000000)(b:h<=1000001)(hz:E<=64):∃l,sub F (min (F.length:Int) (wrap .i64 ((h:Int)*(E:Int)))) (min (F.length:Int) (wrap .i64 ((wrap .i64 ((h:Int)*(E:Int)))+(E:Int))))=some l/\EW l/\l.length<=1000:=by have c:h*E<=1000001*64:=SK b hz;rw[show(h:Int)*(E:Int)=((h*E:Nat):Int)by simp,xN (by omega),show(((h*E:Nat):Int)+(E:Int))=((h*E+E:Nat):Int)by omega,xN (by omega)];unfold sub;rw[AQ ⟨by omega,by omega,by omega⟩];refine⟨_,O,(a.take _).drop _,?_⟩;rw[EM,DV];omega
def zWk{M:List zY}(h:RA K V I)(G:vB e){x:List Int}(H:EW x)(J:x.length<=1000000)(d:zB)(f:yB)(s:zE)(r:zG):∃q,rZ ⟨true,true,true,true,M⟩ e x d f K s V r=some q/\vB q.1/\RA q.2.1 q.2.2.1 I/\Qt K q.2.1 V q.2.2.1/\q.2.2.2=true:=by
 unfold rZ;obtain⟨B,N,u,z0,z1⟩:=jV G (n:=49) (by omega);obtain⟨z,hz⟩:∃z:Nat,wrap .i64 (16+B.2)=z/\1<=z/\z<=64:=⟨(16+B.2).toNat,by rw[yF (by omega) (by omega)];omega,by omega,by omega⟩;obtain⟨a1,b1,g,P,Q,R,S,he⟩:=zKK h (x.length:Int) (z:Int);simp only[show vZ true=some true from O,AA];rw[N,AA,hz.1,P,AA,Q,AA,show(g !=g)=false by simp,BB,show((x.length:Int)+(z:Int))=((x.length+z:Nat):Int)by omega,xN (by omega),show(((x.length+z:Nat):Int)-1)=((x.length+z-1:Nat):Int)by omega,xN (by omega),zSm hz.2.1 (by omega),AA];have T:(x.length+z-1)/z<=1000000:=Nat.div_le_of_le_mul (by omega);generalize (x.length+z-1)/z=n at T;refine lE (λt=>RA t.1 t.2.1 I/\Qt K t.1 V t.2.1/\vB ⟨t.2.2.2.1,t.2.2.2.2⟩/\0<=t.2.2.1/\t.2.2.1<=n) (λt=>(n-t.2.2.1).toNat) (λo=>∃t,o=.inr t/\RA t.1 t.2.1 I/\Qt K t.1 V t.2.1/\vB ⟨t.2.2.1,t.2.2.2⟩) ⟨R,S,u,by simp,by simp⟩ ?_ ?_
 ·rintro⟨a2,b2,i,L,At⟩ ⟨c,j,m,C,U⟩
  simp only at c j m C U⊢;by_cases D:i<(n:Int)
  ·rw[BK D,BD]
   obtain⟨a,e4,c4,z4,z5⟩:=jV m (n:=40) (by omega)
   have v:∃k w b,(bnd (yH (⟨L,At⟩:xT) 40) λa=>bif(a.2==39)then bnd (yH a.1 (wrap .i64 ((n:Int)+1))) λp=>some (p.2,p.1.L,p.1.At)else some (i,a.1.L,a.1.At):Option (Int×List Int×Int))=some (((k:Nat):Int),w,b)/\vB ⟨w,b⟩/\k<=1000001:=by
    rw[e4,AA];by_cases E:a.2=39
    ·rw[show(a.2==39)=true by simpa using E,BD,yF (by omega) (by omega)]
     obtain⟨p,e5,c5,W,z7⟩:=jV c4 (n:=(n:Int)+1) (by omega);rw[e5,AA];exact⟨p.2.toNat,_,_,by rw[xh W],c5,by omega⟩
    ·rw[show(a.2==39)=false by simpa using E,BB]
     exact⟨i.toNat,_,_,by rw[xh C],c4,by omega⟩
   obtain⟨k,w,b,X,ck,v⟩:=v;obtain⟨l,Y,Z,ll⟩:=yAG H J v hz.2.2;obtain⟨a3,b3,F,p1,p2,y,A,_⟩:=zUS c (k:Int) Z ll;rw[X,AA];simp only;rw[Y,AA,p1,AA,p2,AA,show(F !=F)=false by simp,BB,yF (by omega) (by omega)];exact⟨_,O,⟨y,j.trans A,ck,by simp only;omega,by simp only;omega⟩,by simp only;omega⟩
  ·rw[BV D,BB]
   exact⟨_,O,_,O,c,j,m⟩
 ·rintro _ ⟨t,rfl,c,j,m⟩
  exact⟨_,O,m,c,j,O⟩
def ig(s:yX)(b:List Nat)(o:Option (List Nat)):Prop:=s.b=iz b/\∃a:Nat,s.at_=(a:Int)/\a<=b.length/\((s.bad=false/\o=some (b.drop a))\/(s.bad=true/\o=none))
variable{w:yX}
def zUj(h:ig w A Y)(m:xJ A)(t:A.length<=1000000){n:Nat}(u:n<=70000):∃e b,vX w (n:Int)=some (e,iz b)/\ig e A (Y.bind λr=>(rd n r).map (·.2))/\xJ b/\(∀x,Y.bind (rd n)=some x->b=x.1)/\(Y.bind (rd n)=none->be b=0)/\b.length<=n:=by
 obtain⟨f,a,g,i,j⟩:=h;obtain⟨sb,v,sd⟩:=w;simp only at f g j;subst f;subst g;unfold vX;rcases j with⟨rfl,rfl⟩|⟨rfl,rfl⟩
 ·have o:wrap .i64 (((iz A).length:Int)-(a:Int))=((A.length-a:Nat):Int):=by rw[ES,yF (by omega) (by omega)];omega
  simp only[BB,o,AA];by_cases k:n<=A.length-a
  ·have p:wrap .i64 ((a:Int)+(n:Int))=((a+n:Nat):Int):=by rw[yF (by omega) (by omega)];omega
   have q:wrap .i64 (((a+n:Nat):Int)-(n:Int))=(a:Int):=by rw[yF (by omega) (by omega)];omega
   have d:rd n (A.drop a)=some ((A.drop a).take n,A.drop (a+n)):=by unfold rd;rw[AQ (by rw[EM];exact k),IV]
   have s:(A.take (a+n)).drop a=(A.drop a).take n:=by rw[LD];congr 1;omega
   rw[BV (by omega:¬(n:Int)>((A.length-a:Nat):Int)),BB,p,q,Np (by omega) (by omega),AA,s];rw[show app 1 ([]:List Int) (iz ((A.drop a).take n))=some (iz ((A.drop a).take n))from zYA (l:=[]) (by simp;omega) (by simp;omega),AA];refine⟨_,(A.drop a).take n,O,⟨O,a+n,O,by omega,.inl ⟨O,?_⟩⟩,(m.drop a).take n,λx c=>?_,λc=>?_,by rw[DV];omega⟩
   ·simp[d]
   ·simp only[CS,d,LV]at c
    rw[<-c]
   ·simp[d]at c
  ·have d:rd n (A.drop a)=none:=by unfold rd;rw[AP (by rw[EM];exact k)]
   rw[BK (by omega:(n:Int)>((A.length-a:Nat):Int)),BD];refine⟨_,[],O,⟨O,a,O,i,.inr ⟨O,?_⟩⟩,xJ.nil,λx c=>?_,λ_=>O,by simp⟩
   ·simp[d]
   ·simp[d]at c
 ·simp only[BD,AA]
  refine⟨_,[],O,⟨O,a,O,i,.inr ⟨O,?_⟩⟩,xJ.nil,λx c=>?_,λ_=>O,by simp⟩
  ·simp
  ·simp at c
def Kt(h:ig w A Y)(l:xJ A)(m:A.length<=1000000){n:Nat}(t:n<=4):∃c v,xD w (n:Int)=some (c,((v:Nat):Int))/\ig c A (Y.bind λr=>(tD n r).map (·.2))/\v=((Y.bind (tD n)).map (·.1)).getD 0:=by
 obtain⟨c,a,o,p,g,j,e,u⟩:=zUj h l m (n:=n) (by omega);refine⟨c,((Y.bind (tD n)).map (·.1)).getD 0,?_,?_,O⟩
 ·unfold xD
  refine yL o ?_
  have q:((Y.bind (tD n)).map (·.1)).getD 0=be a:=by
   cases Y with
   |none=>exact(e O).symm|some r=>
    simp only[CS]at j e⊢;unfold tD;cases k:rd n r with
    |none=>exact(e k).symm|some x=>
     rw[j x k];rfl
  rw[q];refine xM (λi=>(((be (a.take i):Nat):Int),(i:Int))) a.length ((be a:Nat):Int) O (λi d=>?_) ?_ O
  ·have s:=g.get d
   have b:=Pm (a.take i) (g.take i);rw[DV,NP (by omega)]at b
   have f:be (a.take i)<16777216:=GV b (by have:(256:Nat)^i<=256^3:=OM (by omega) (by omega);omega)
   dsimp only;rw[BK (by rw[ES];omega:(i:Int)<((iz a).length:Int)),BD];refine yL (iV d) ?_;rw[xN (by omega),zTZ f s,zV d (by omega),Yo d]
  ·dsimp only
   rw[BV (by rw[ES];omega:¬(a.length:Int)<((iz a).length:Int)),BB,GU]
 ·have:(Y.bind λr=>(tD n r).map (·.2))=(Y.bind λr=>(rd n r).map (·.2)):=by
   cases Y with
   |none=>rfl|some r=>
    simp only[CS];unfold tD;cases rd n r<;>rfl
  rw[this];exact p
def zHQ{b:List Nat}(n:Nat)(e:n<=4)(d:∀r,Y=some r->xJ r):((Y.bind (tD n)).map (·.1)).getD 0<256^n:=by
 have hp:0<256^n:=Nat.pow_pos (by omega);cases Y with
 |none=>simpa using hp|some r=>
  simp only[CS];unfold tD;cases a:rd n r with
  |none=>simpa using hp|some x=>
   simp only[DR,GK];unfold rd at a;split at a
   ·rename_i c
    injection a with a;rw[<-a];have:=Pm (r.take n) ((d r O).take n);rw[DV,NP c]at this;exact this
   ·cases a
def zOy(h:ig w A Y)(d:xJ A):∀r,Y=some r->xJ r:=by
 obtain⟨_,a,_,_,e⟩:=h;intro r b;rcases e with⟨_,c⟩|⟨_,c⟩
 ·rw[c]at b
  injection b with b;rw[<-b];exact d.drop a
 ·rw[c]at b
  cases b
def zXY(h:ig w A Y)(e:xJ A)(i:A.length<=1000000):∃j t,vI w=some (j,t)/\ig j A (Y.bind λr=>(lC r).map (·.2))/\(∀x,Y.bind lC=some x->t=sb x.1):=by
 obtain⟨p,q,k,l,rfl⟩:=Kt h e i (n:=1) (by omega);have s:=zHQ (b:=A) 1 (by omega) (zOy h e);obtain⟨m,f,o,c,u,g,v,z⟩:=zUj l e i (n:=((Y.bind (tD 1)).map (·.1)).getD 0) (by omega);refine⟨m,sb f,?_,?_,λx a=>?_⟩
 ·unfold vI
  refine yL k ?_;refine yL o ?_;rw[bW]
 ·cases Y with
  |none=>exact c|some r=>
   simp only[CS]at c⊢;unfold lC;cases d:tD 1 r with
   |none=>rw[d]at c;exact c|some y=>rw[d]at c;exact c
 ·cases Y with
  |none=>cases a|some r=>
   simp only[CS]at g a;unfold lC at a;cases d:tD 1 r with
   |none=>rw[d]at a;cases a|some y=>
    rw[d]at a g;rw[g x a]
def yBi(h:ig w A Y)(f:xJ A)(g:A.length<=1000000):∃i v,wO w=some (i,v)/\ig i A (Y.bind λr=>(bL r).map (·.2))/\(∀x,Y.bind bL=some x->v=x.1):=by
 obtain⟨E,j,k,l,m⟩:=Kt h f g (n:=2) (by omega);obtain⟨F,o,p,q,s⟩:=Kt l f g (n:=2) (by omega);obtain⟨t,B,C,b,D⟩:=Kt q f g (n:=2) (by omega);refine⟨t,⟨(j:Int),(o:Int),(B:Int)⟩,?_,?_,λx a=>?_⟩
 ·unfold wO
  refine yL k ?_;refine yL p ?_;refine yL C ?_;rfl
 ·cases Y with
  |none=>exact b|some r=>
   simp only[CS]at b⊢;unfold bL;cases e:tD 2 r with
   |none=>rw[e]at b;exact b|some y=>
    rw[e]at b;simp only[DR,CS]at b⊢;cases c:tD 2 y.2 with
    |none=>rw[c]at b;exact b|some z=>
     rw[c]at b;simp only[DR,CS]at b⊢;cases d:tD 2 z.2 with
     |none=>rw[d]at b;exact b|some u=>rw[d]at b;exact b
 ·cases Y with
  |none=>cases a|some r=>
   simp only[CS]at a⊢;unfold bL at a;cases e:tD 2 r with
   |none=>rw[e]at a;cases a|some y=>
    rw[e]at a;simp only[DR,CS]at a⊢;cases c:tD 2 y.2 with
    |none=>rw[c]at a;cases a|some z=>
     rw[c]at a;simp only[DR,CS]at a⊢;cases d:tD 2 z.2 with
     |none=>rw[d]at a;cases a|some u=>
      rw[d]at a;simp only[DR,LV]at a;rw[<-a,m,s,D];simp only[CS,e,c,d,DR,GK]
def yBj:∀{l m:List Nat},xJ l->xJ m->l.length=m.length->be l=be m->l=m:=by
 intro l m d e c h
 have key:∀n,n<=l.length->be (l.take n)=be (m.take n)->l.take n=m.take n:=by
  intro n;induction n with
  |zero=>intro _ _;rfl
  |succ n f=>
   intro i g;have a:n<l.length:=by omega
   have b:n<m.length:=by omega
   have j:=d.get a;have k:=e.get b;rw[Yo a,Yo b]at g;rw[xA a,xA b,f (by omega) (by omega),show l[n]=m[n]by omega]
 have:=key l.length (FN _);rw[GU,c,GU]at this;exact this h
def zZM(a:List Int)(x:Int)(h:a.length<=1000):app 4 a [x]=some (a++[x]):=wF (by simp;omega) (by simp;omega)
def yCc(x:xJ A)(hl:A.length<=100000)(m:List Int×Int×List Int×Int×Bool×List zO->Option (wZ (List Int×Int×List Int×Int×Bool×List zO) (List Int×List Int×Int×Bool×List zO)))(L:∀e,m e=bnd (bif decide (e.2.1>0)then some (!e.2.2.2.2.1)else some false:Option Bool) λo2=>bif o2 then bnd (vI (⟨e.2.2.1,e.2.2.2.1,e.2.2.2.2.1⟩:yX)) λr5=>bnd (wO r5.1) λr6=>bnd (xD r6.1 2) λr7=>bnd (vX r7.1 r7.2) λr8=>bnd (app 64 e.2.2.2.2.2 [(⟨r5.2,r6.2,r8.2⟩:zO)]) λl4=>bnd (xD r8.1 4) λJ=>bnd (app 4 e.1 [wrap .u32 J.2]) λl5=>some (.next (l5,wrap .i64 (e.2.1-1),J.1.b,J.1.at_,J.1.bad,l4))else some (.done (e.1,e.2.2.1,e.2.2.2.1,e.2.2.2.2.1,e.2.2.2.2.2))):∀(k:Nat) (j:List Int) (s:yX) (o:Option (List Nat)) (c:List zO),ig s A o->c.length+k<=300->j.length=c.length->∃l B f,zZ m (j,(k:Int),s.b,s.at_,s.bad,c)=some (l,B.b,B.at_,B.bad,f)/\ig B A (o.bind λr=>(nL k r).map (·.2))/\(∀y,o.bind (nL k)=some y->f=c++y.1.map (·.1)/\l=j++y.1.map λz=>((z.2.1:Nat):Int)):=by
 intro k;induction k with
 |zero=>
  intro j s o c C _ _;refine⟨j,s,c,?_,?_,λy hy=>?_⟩
  ·apply yV
   rw[L];rfl
  ·cases o with
   |none=>exact C|some r=>exact C
  ·obtain⟨r,rfl,hr⟩:=vD hy
   simp only[nL,LV]at hr;rw[<-hr];simp
 |succ k ih=>
  intro j s o c C hacc M;cases o with
  |none=>
   have g:s.bad=true:=by
    obtain⟨_,a,_,_,h⟩:=C;rcases h with⟨_,h⟩|⟨h,_⟩
    ·cases h
    ·exact h
   refine⟨j,s,c,?_,C,λy hy=>by cases hy⟩;apply yV;rw[L];simp only[BK (by omega:((k+1:Nat):Int)>0),BD,g,EG,AA,BB]
  |some r=>
   have N:=C;obtain⟨e1,a,e2,e3,e4⟩:=C
   have g:s.bad=false/\r=A.drop a:=by
    rcases e4 with⟨h,P⟩|⟨_,h⟩
    ·injection P with P
     exact⟨h,P⟩
    ·cases h
   have Po:(⟨s.b,s.at_,s.bad⟩:yX)=s:=rfl;obtain⟨s5,Q,f5,g5,v5⟩:=zXY N x (by omega);obtain⟨s6,R,f6,g6,v6⟩:=yBi g5 x (by omega);obtain⟨s7,D,f7,g7,S⟩:=Kt g6 x (by omega) (n:=2) (by omega);have T:=zHQ (b:=A) 2 (by omega) (zOy g6 x);rw[<-S]at T;obtain⟨s8,U,f8,g8,w8,v8,_,l8⟩:=zUj g7 x (by omega) (n:=D) (by omega);obtain⟨i,p,V,E,F⟩:=Kt g8 x (by omega) (n:=4) (by omega);have Pq:=zHQ (b:=A) 4 (by omega) (zOy g8 x);rw[<-F]at Pq
   have G:(((((some r).bind λr=>(lC r).map (·.2)).bind λr=>(bL r).map (·.2)).bind λr=>(tD 2 r).map (·.2)).bind λr=>(rd D r).map (·.2)).bind (λr=>(tD 4 r).map (·.2))=(Aw r).map (·.2):=by
    simp only[CS];unfold Aw;cases h5:lC r with
    |none=>rfl|some t=>
     simp only[DR,CS];cases h6:bL t.2 with
     |none=>rfl|some v=>
      simp only[DR,CS];cases h7:tD 2 v.2 with
      |none=>rfl|some H=>
       simp only[DR,CS]
       have q:D=H.1:=by rw[S];simp only[CS,h5,h6,h7,DR,GK]
       rw[q];cases h8:rd H.1 H.2 with
       |none=>rfl|some d=>
        simp only[DR,CS];cases tD 4 d.2<;>rfl
   rw[G]at E;obtain⟨l,B,f,c1,u,c3⟩:=ih (j++[((p:Nat):Int)]) i ((Aw r).map (·.2)) (c++[⟨Q,R,iz U⟩]) E (by simp;omega) (by simp[M]);refine⟨l,B,f,?_,?_,λy hy=>?_⟩
   ·refine xV (s':=(j++[((p:Nat):Int)],(k:Int),i.b,i.at_,i.bad,c++[⟨Q,R,iz U⟩])) ?_ c1
    rw[L];simp only[BK (by omega:((k+1:Nat):Int)>0),BD,g.1,IK,AA,Po,f5,f6];rw[show(⟨s.b,s.at_,false⟩:yX)=s by rw[<-g.1],f5,AA,f6,AA];rw[show xD s6 2=some (s7,(D:Int))from f7,AA,f8,AA,zRU _ _ (by omega),AA,show xD s8 4=some (i,(p:Int))from V,AA,zIe (by omega),zZM _ _ (by omega),AA];congr 4;rw[yF (by omega) (by omega)];omega
   ·simp only[CS]
    rw[nL];cases hi:Aw r with
    |none=>rw[hi]at u;exact u|some z=>
     rw[hi]at u;simp only[DR,CS]at u⊢;cases hk:nL k z.2 with
     |none=>rw[hk]at u;exact u|some w=>rw[hk]at u;exact u
   ·simp only[CS]at hy
    rw[nL]at hy;obtain⟨z,hz,W⟩:=vD hy;obtain⟨w,hw,X⟩:=fU W;have h3:=c3 w (by rw[hz];exact hw);obtain⟨t,I,q2⟩:=vD hz;obtain⟨v,K,q4⟩:=vD q2;obtain⟨H,Y,q6⟩:=vD q4;obtain⟨d,q7,q8⟩:=vD q6;obtain⟨ss,q9,Z⟩:=fU q8;have Px:Q=sb t.1:=v5 t I;have Py:R=v.1:=v6 v (by simp only[CS,I,DR,K])
    have q:D=H.1:=by rw[S];simp only[CS,I,K,Y,DR,GK]
    have Pz:U=d.1:=v8 d (by simp only[CS,I,K,Y,DR,q,q7])
    have Pv:p=ss.1:=by rw[F];simp only[CS,I,K,Y,DR,q,q7,q9,GK]
    rw[<-X,h3.1,h3.2,<-Z];simp only[GY,Px,Py,Pz,Pv,FH,SB,JI];exact⟨trivial,trivial⟩
def yBe(q:xJ A)(hl:A.length<=100000)(m:Int×List Int×Int×Bool×List zY->Option (wZ (Int×List Int×Int×Bool×List zY) (List Int×Int×Bool×List zY)))(C:∀f,m f=bnd (bif decide (f.1>0)then some (!f.2.2.2.1)else some false:Option Bool) λV=>bif V then bnd (vI (⟨f.2.1,f.2.2.1,f.2.2.2.1⟩:yX)) λn=>bnd (wO n.1) λM=>bnd (vI M.1) λN=>bnd (wO N.1) λg=>bnd (app 80 f.2.2.2.2 [(⟨n.2,M.2,N.2,g.2⟩:zY)]) λW=>some (.next (wrap .i64 (f.1-1),g.1.b,g.1.at_,g.1.bad,W))else some (.done (f.2.1,f.2.2.1,f.2.2.2.1,f.2.2.2.2))):∀(k:Nat) (s:yX) (o:Option (List Nat)) (c:List zY),ig s A o->c.length+k<=300->∃j d,zZ m ((k:Int),s.b,s.at_,s.bad,c)=some (j.b,j.at_,j.bad,d)/\ig j A (o.bind λr=>(jF k r).map (·.2))/\(∀y,o.bind (jF k)=some y->d=c++y.1):=by
 intro k;induction k with
 |zero=>
  intro s o c l _;refine⟨s,c,?_,?_,λy hy=>?_⟩
  ·apply yV
   rw[C];rfl
  ·cases o with
   |none=>exact l|some r=>exact l
  ·obtain⟨r,rfl,P⟩:=vD hy
   simp only[jF,LV]at P;rw[<-P];simp
 |succ k X=>
  intro s o c l Q;cases o with
  |none=>
   have e:s.bad=true:=by
    obtain⟨_,a,_,_,h⟩:=l;rcases h with⟨_,h⟩|⟨h,_⟩
    ·cases h
    ·exact h
   refine⟨s,c,?_,l,λy hy=>by cases hy⟩;apply yV;rw[C];simp only[BK (by omega:((k+1:Nat):Int)>0),BD,e,EG,AA,BB]
  |some r=>
   have D:=l;obtain⟨e1,a,e2,e3,e4⟩:=l
   have e:s.bad=false:=by
    rcases e4 with⟨h,h2⟩|⟨_,h⟩
    ·exact h
    ·cases h
   obtain⟨s5,E,Y,Z,v5⟩:=zXY D q (by omega);obtain⟨s6,F,f6,g6,v6⟩:=yBi Z q (by omega);obtain⟨s7,G,f7,g7,v7⟩:=zXY g6 q (by omega);obtain⟨x,H,f8,g8,v8⟩:=yBi g7 q (by omega)
   have p:((((some r).bind λr=>(lC r).map (·.2)).bind λr=>(bL r).map (·.2)).bind λr=>(lC r).map (·.2)).bind (λr=>(bL r).map (·.2))=(Ik r).map (·.2):=by
    simp only[CS];unfold Ik;cases h5:lC r with
    |none=>rfl|some t=>
     simp only[DR,CS];cases h6:bL t.2 with
     |none=>rfl|some v=>
      simp only[DR,CS];cases h7:lC v.2 with
      |none=>rfl|some u=>
       simp only[DR,CS];cases bL u.2<;>rfl
   rw[p]at g8;obtain⟨j,d,c1,i,c3⟩:=X x ((Ik r).map (·.2)) (c++[⟨E,F,G,H⟩]) g8 (by simp;omega);refine⟨j,d,?_,?_,λy hy=>?_⟩
   ·refine xV (s':=((k:Int),x.b,x.at_,x.bad,c++[⟨E,F,G,H⟩])) ?_ c1
    rw[C];simp only[BK (by omega:((k+1:Nat):Int)>0),BD,e,IK,AA];rw[show(⟨s.b,s.at_,false⟩:yX)=s by rw[<-e],Y,AA,f6,AA,f7,AA,f8,AA,zQh _ _ (by omega),AA];congr 3;rw[yF (by omega) (by omega)];omega
   ·simp only[CS]
    rw[jF];cases R:Ik r with
    |none=>rw[R]at i;exact i|some z=>
     rw[R]at i;simp only[DR,CS]at i⊢;cases S:jF k z.2 with
     |none=>rw[S]at i;exact i|some w=>rw[S]at i;exact i
   ·simp only[CS]at hy
    rw[jF]at hy;obtain⟨z,hz,I⟩:=vD hy;obtain⟨w,hw,J⟩:=fU I;have h3:=c3 w (by rw[hz];exact hw);obtain⟨t,B,q2⟩:=vD hz;obtain⟨v,K,q4⟩:=vD q2;obtain⟨u,T,q6⟩:=vD q4;obtain⟨U,q7,q8⟩:=fU q6;have Px:E=sb t.1:=v5 t B;have Py:F=v.1:=v6 v (by simp only[CS,B,DR,K]);have L:G=sb u.1:=v7 u (by simp only[CS,B,DR,K,T]);have Pz:H=U.1:=v8 U (by simp only[CS,B,DR,K,T,q7]);rw[<-J,h3,<-q8];simp only[Px,Py,L,Pz,FH,SB,JI]
def zSG(a:rd h A=some j):A=j.1++j.2/\j.1.length=h:=by obtain⟨b,c,d⟩:=zPy a;rw[b,c,RQ,DV];exact⟨O,by omega⟩
def Uj{x:Nat×List Nat}(a:tD h A=some x):∃l,A=l++x.2/\l.length=h/\x.1=be l:=by obtain⟨y,b,rfl⟩:=fU a;obtain⟨c,d⟩:=zSG b;exact⟨y.1,c,d,O⟩
def Zu{m:List Nat}(h:xJ (A++m)):xJ A:=λx a=>h x (IY _ a)
def aC{m:List Nat}(h:xJ (A++m)):xJ m:=λx a=>h x (JP _ a)
def zOt(h:xJ A)(c:A.length=2):two ((be A:Nat):Int)=iz A:=by
 match A,c with
 |[a,b],_=>
  have d:=h a (by simp);have e:=h b (by simp);rw[zSO];congr 1;simp only[be,Il,LW,YS];rw[show((0*256+a)*256+b)/256%256=a by omega,show((0*256+a)*256+b)%256=b by omega]
def yBY(h:xJ A)(a:A.length<256):Ce (sb A)=iz (A.length::A):=by rw[zOs];unfold Qa;rw[zn,Nl h,UB a]
def zWq{t:List Nat×List Nat}(d:xJ A)(h:lC A=some t):∃b,A=b++t.2/\Ce (sb t.1)=iz b/\t.1.length<256:=by
 obtain⟨x,f,g⟩:=vD h;obtain⟨l,i,j,k⟩:=Uj f;obtain⟨e,m⟩:=zSG g
 match l,j with
 |[a],_=>
  subst i;have o:=d a (by simp);have n:x.1=a:=by rw[k];simp[be]
  have c:xJ t.1:=by have:=aC d;rw[e]at this;exact Zu this
  refine⟨a::t.1,?_,?_,by omega⟩
  ·rw[e];rfl
  ·rw[yBY c (by omega),m,n]
def zXc{v:zS×List Nat}(b:xJ A)(h:bL A=some v):∃a,A=a++v.2/\ZP v.1=iz a:=by
 obtain⟨x,i,j⟩:=vD h;obtain⟨y,k,l⟩:=vD j;obtain⟨z,m,d⟩:=fU l;obtain⟨n,e,o,p⟩:=Uj i;obtain⟨q,b1,b2,b3⟩:=Uj k;obtain⟨r,f,s,t⟩:=Uj m;rw[e]at b;have u:=Zu b;have c:=aC b;rw[b1]at c;have w:=Zu c;have g:=aC c;rw[f]at g;have B:=Zu g;refine⟨n++(q++r),?_,?_⟩
 ·rw[e,b1,f,<-d]
  simp only[FH]
 ·rw[<-d]
  unfold ZP;dsimp only;rw[p,b3,t,zOt u o,zOt w b2,zOt B s,mK,mK]
def zWE{z:Pn×List Nat}(g:xJ A)(h:Aw A=some z):dw z.1.1=iz z.1.2.2/\z.1.1.Name.size<256/\z.1.1.Data.length<65536/\xJ z.2:=by
 obtain⟨t,w,x⟩:=vD h;obtain⟨v,y,B⟩:=vD x;obtain⟨C,D,E⟩:=vD B;obtain⟨d,F,G⟩:=vD E;obtain⟨ss,H,i⟩:=fU G;obtain⟨n,o,I,J⟩:=zWq g w;have b:xJ t.2:=by rw[o]at g;exact aC g
 obtain⟨p,b1,b2⟩:=zXc b y;have a:xJ v.2:=by rw[b1]at b;exact aC b
 obtain⟨l,j,q,K⟩:=Uj D;have r:xJ l:=by rw[j]at a;exact Zu a
 have e:xJ C.2:=by rw[j]at a;exact aC a
 obtain⟨s,L⟩:=zSG F;have u:xJ d.2:=by rw[s]at e;exact aC e
 obtain⟨m,M,P,Q⟩:=Uj H;have k:xJ ss.2:=by rw[M]at u;exact aC u
 have N:=Pm l r;rw[q]at N
 have c:A=(n++(p++(l++d.1)))++d.2:=by rw[o,b1,j,s];simp only[FH]
 have f:A.take (A.length-d.2.length)=n++(p++(l++d.1)):=by rw[c,ER,PZ,OU]
 subst i;dsimp only;refine⟨?_,by rw[zn];exact J,by rw[ES];omega,k⟩;rw[f];have:dw ⟨sb t.1,v.1,iz d.1⟩=Ce (sb t.1)++(ZP v.1++(two (((iz d.1).length:Nat):Int)++iz d.1)):=rfl;rw[this,I,b2,ES,L,K,zOt r q,mK,mK,mK]
def zMJ:∀(k:Nat) (r:List Nat) (y:List Pn×List Nat),xJ r->nL k r=some y->∀z∈y.1,dw z.1=iz z.2.2/\z.1.Name.size<256/\z.1.Data.length<65536
 |0,r,y,_,h=>by simp only[nL,LV]at h;subst h;intro z hz;cases hz
 |k+1,r,y,e,h=>by
  rw[nL]at h;obtain⟨x,f,g⟩:=vD h;obtain⟨w,i,j⟩:=fU g;obtain⟨a,b,c,d⟩:=zWE e f;subst j;intro z hz;rcases EC.1 hz with rfl|hz
  ·exact⟨a,b,c⟩
  ·exact zMJ k x.2 w d i z hz
def zTi(h:P.Name.size<256/\P.Data.length<65536):rR P=some (dw P):=by have a:=lF P.Name;unfold rR nA tQ nI;rw[kY (by simp[a];omega)];simp only[AA];rw[kY (by simp)];simp only[AA];rw[kY (by simp)];simp only[AA];rw[kY (by simp[a];omega)];simp only[AA];rw[kY (by simp[a];omega)];simp only[AA];rw[kY (by simp[a];omega)];simp[dw,ZP,two]
def zUU(h:P.Name.size<256/\P.Data.length<65536):(dw P).length<=70000:=by simp[dw,ZP,two,lF];omega
end Go.Proofs.YtjconpohbhlcmaaGreatDoor
end
