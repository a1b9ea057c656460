/-
  Texts of this seat, put together: rules, walks, plain laws.
  Conditions: none.
-/
import Derived.Test.YtjconpohbhlcmaaGreatDoorVX6
noncomputable section
namespace Go.Proofs.YtjconpohbhlcmaaGreatDoor
open Go IntKind
set_option linter.unusedVariables false
set_option linter.defProp false
set_option linter.unusedSimpArgs false
set_option linter.unusedSectionVars false
set_option maxHeartbeats 4000000
set_option maxRecDepth 10000
def mask(n:Nat)(f:Nat->Bool):Nat:=(List.range n).foldl (λs i=>if f i=true then s|||2^i else s) 0
def Xp(n:Nat)(f:Nat->Bool):mask (n+1) f=if f n=true then mask n f|||2^n else mask n f:=by simp[mask,OT]
def Sz(n:Nat)(f:Nat->Bool):mask n f<2^n:=by
 induction n with
 |zero=>simp[mask]|succ n b=>
  rw[Xp];have a:mask n f<2^(n+1):=Nat.lt_trans b (XF (by omega) (by omega));have c:2^n<2^(n+1):=XF (by omega) (by omega);split
  ·exact QA a c
  ·exact a
theorem zPQ(n:Nat)(f:Nat->Bool)(i:Nat):(mask n f).testBit i=(decide (i<n)&&f i):=by
 induction n with
 |zero=>simp[mask]|succ n a=>
  rw[Xp]
  grind
theorem zOC(a i:Nat):(a/2^i)&&&1=if a.testBit i=true then 1 else 0:=by grind
theorem zTX(a i:Nat):((((a/2^i)&&&1:Nat):Int)==1)=a.testBit i:=by grind
theorem yAI(a i:Nat):((((a/2^i)&&&1:Nat):Int)==0)=!a.testBit i:=by grind
theorem zZs(a i:Nat):(((a|||2^i:Nat):Int)==(a:Int))=a.testBit i:=by
 cases h:a.testBit i
 ·rw[XI]
  intro e;have:a|||2^i=a:=by exact_mod_cast e
  grind
 ·rw[KL]
  congr 1;apply PY
  grind
def VU(S F:Nat):Prop:=∀i,S.testBit i=true->F.testBit i=true
variable{h D:Nat}
def VU.le(a:VU h D):h<=D:=by
 have:h|||D=D:=by
  apply PY;intro i;rw[UK];cases b:h.testBit i
  ·simp
  ·simp[a i b]
 rw[<-this];exact Nat.left_le_or
def VU.zero(F:Nat):VU 0 F:=λi h=>by simp at h
variable{V:Nat}
theorem VU.or(a:VU h D)(d:D.testBit V=true):VU (h|||2^V) D:=λj b=>by
 rw[UK]at b;by_cases c:V=j
 ·grind
 ·rw[ql c]at b
  exact a j (by simpa using b)
theorem X4(S i j:Nat):(S|||2^i).testBit j=(S.testBit j||decide (i=j)):=by grind
theorem Tc(a:h.testBit D=false):h<h|||2^D:=by
 rcases MG h (h|||2^D)with g|g
 ·exact g
 ·have e:h|||2^D=h:=Nat.le_antisymm g Nat.left_le_or
  grind
def aK(p:xH)(i:Nat):Bool:=match p.Now[i]?,p.Next[i]?with
 |some a,some b=>!((a.Version.CB==b.Version.CB)&&((a.Version.CG==b.Version.CG)&&((a.Version.CQ==b.Version.CQ)&&true)))|_,_=>false
def yD(p:xH):Nat:=mask p.Now.length (aK p)
def X5(a:h<8):2^h<256:=XF (a:=2) (n:=8) (by omega) a
theorem Xq{i:Nat}(h:i<8):cK .i64 1 (i:Int)=some ((2^i:Nat):Int):=by
 have:=zKG (a:=1) (s:=i) (by omega) (by rw[QG];have:=X5 h;omega)
 grind
def yBD{a i:Nat}(h:i<=64):Dp .i64 (a:Int) (i:Int)=some ((a/2^i:Nat):Int):=O4 h
def Xr{a i:Nat}(c:a<256)(h:i<8):GR .i64 (a:Int) ((2^i:Nat):Int)=((a|||2^i:Nat):Int):=Nq (a:=a) (b:=2^i) (by omega) (by have:=X5 h;omega)
def X6(b:h<4611686018427387904):uJ .i64 (h:Int) 1=((h&&&1:Nat):Int):=zKU (b:=1) b (by omega)
def yAN(a:h<256)(b:D<8):h|||2^D<256:=QA (n:=8) a (X5 b)
def Ic{f:Nat->Bool}(a:h<=8):mask h f<256:=GV (Sz h f) (OM (by omega) a)
variable{I:xH}
theorem zYh(h:I.Now.length<=8)(d:I.Next.length=I.Now.length):mV I=some (yD I:Int):=by
 unfold mV yD;refine xM (λ(i:Nat)=>(((mask i (aK I):Nat):Int),(i:Int))) I.Now.length _ O (λi b=>?_) ?_ O
 ·have d0:decide ((i:Int)<(I.Now.length:Int))=true:=by simp;omega
  have c:i<I.Next.length:=by omega
  simp only[d0,yN b,yN c,AA,zV b (by omega),Xq (i:=i) (by omega),Xr (a:=mask i (aK I)) (Ic (by omega)) (i:=i) (by omega)];rw[Xp]
  have e:aK I i=!((I.Now[i].Version.CB==I.Next[i].Version.CB)&&((I.Now[i].Version.CG==I.Next[i].Version.CG)&&((I.Now[i].Version.CQ==I.Next[i].Version.CQ)&&true))):=by
   unfold aK
   grind
  grind
 ·grind
def jd(p:xH)(S i:Nat):List zR:=p.Now.mapIdx λj a=>if(decide (j<i)&&S.testBit j)=true then(p.Next[j]?).getD a else a
def mY(p:xH)(S:Nat):List zR:=jd p S p.Now.length
@[simp] def X7(p:xH)(S i:Nat):(jd p S i).length=p.Now.length:=by simp[jd]
theorem Xt(b:I.Next.length=I.Now.length)(a:V<I.Now.length):(jd I h D)[V]'(by simpa using a)=if(decide (V<D)&&h.testBit V)=true then I.Next[V]else I.Now[V]:=by
 simp only[jd]
 grind
def zRi(p:xH)(S:Nat):jd p S 0=p.Now:=by apply LZ (by simp);simp[jd]
theorem zRE(c:I.Next.length=I.Now.length)(g:D<I.Now.length):jd I h (D+1)=if h.testBit D=true then(jd I h D).set D I.Next[D]else jd I h D:=by
 split
 ·apply LZ (by simp)
  intro j d f;have b:j<I.Now.length:=by simpa using d
  rw[Xt c b];by_cases e:j=D
  ·grind
  ·rw[wo (λa=>e a.symm),Xt c b]
   grind
 ·apply LZ (by simp)
  intro j d f;have b:j<I.Now.length:=by simpa using d
  rw[Xt c b,Xt c b]
  grind
variable{U:Type}
theorem zXi{b:List U}{y:U}(a:h<b.length):uF b (h:Int) y=some (b.set h y):=by
 unfold uF
 grind
theorem zYq(a:I.Now.length<=8)(d:I.Next.length=I.Now.length)(g:h<256):lK I (h:Int)=some (mY I h):=by
 unfold lK wL;rw[wF (by simp;omega) (by simp;omega)];simp;refine xM (λ(i:Nat)=>((i:Int),jd I h i)) I.Now.length _ (by rw[zRi];rfl) (λi c=>?_) ?_ O
 ·have d0:decide ((i:Int)<(I.Now.length:Int))=true:=by simp;omega
  have e:i<I.Next.length:=by omega
  have b:i<(jd I h i).length:=by simpa using c
  have f:h/2^i<4611686018427387904:=NK (MF _ _) (by omega);simp only[d0,yBD (a:=h) (i:=i) (by omega),AA,X6 f,yN e,yN b,zXi b,zV c (by omega),zRE d c]
  grind
 ·have d0:decide ((I.Now.length:Int)<(I.Now.length:Int))=false:=by simp
  simp only[d0,BB,mY]
def iW.name(a:iW I)(b:h<I.Now.length):(I.Next[h]'(by rw[a.len];exact b)).Name=I.Now[h].Name:=by
 have c:h<I.Next.length:=by rw[a.len];exact b
 have:(wQ I.Now)[h]?=(wQ I.Next)[h]?:=by rw[a.names]
 simp[wQ,b,c]at this;exact(zYd this).symm
theorem zKe{l:List zR}(h:rB l=true){i:Nat}(a:i<l.length):Hz l i=true:=by
 unfold rB at h
 grind
def zGD(a:iW I)(b:D<I.Now.length):(mY I h)[D]'(by simpa[mY]using b)=if h.testBit D=true then I.Next[D]'(by rw[a.len];exact b)else I.Now[D]:=by unfold mY;rw[Xt a.len b];simp[b]
def zIZ(a:iW I)(b:D<I.Now.length):((mY I h)[D]'(by simpa[mY]using b)).Name=I.Now[D].Name:=by
 rw[zGD a b];split
 ·exact a.name b
 ·rfl
theorem zRV(h:iW I)(S:Nat):rB (mY I S)=true:=by
 unfold rB;have a:(mY I S).length=I.Now.length:=by simp[mY]
 rw[a];refine JV.2 ⟨by simpa using h.WJ,List.all_eq_true.2 λi b=>?_⟩;have b:i<I.Now.length:=by simpa using b
 have c:=zKe h.now b;have e:=zKe h.next (i:=i) (by rw[h.len];exact b);have g:i<(mY I S).length:=by rw[a];exact b
 unfold Hz at c e⊢;rw[CJ g];rw[CJ b]at c;simp only[zIZ h b,GX]at c e⊢;refine⟨⟨c.1.1,?_⟩,?_⟩
 ·rw[zGD h b]
  grind
 ·have f:=c.2
  by_cases j:i=0
  ·simp[j]
  ·have hp:i-1<I.Now.length:=by omega
   have d:i-1<(mY I S).length:=by omega
   rw[CJ hp]at f;rw[CJ d];simp only[zIZ h hp];exact f
def uK(p:xH)(S:Nat):Bool:=p.Needs.all (jU (mY p S))
def yAw(c:iW I)(d:h<256):qH I (h:Int)=some (uK I h):=by
 unfold qH;obtain⟨r,a,b⟩:=Sv (mY I h) I.Needs;rw[zYq c.WJ c.len d];simp only[AA,a];unfold X0 at b;rw[AP (by rw[zRV c];simp),AP (by rw[c.needs];simp)]at b;have e:(r.2==0)=true:=by rw[b.1];rfl
 rw[e];simp only[b.2];rfl
def zTC(h:iW I):mY I 0=I.Now:=by apply LZ (by simp[mY]);intro i b a;rw[zGD h a];simp
def X8(i:Nat):(yD I).testBit i=(decide (i<I.Now.length)&&aK I i):=zPQ _ _ _
section
variable(n F:Nat)(G:Nat->Bool)
def nZ(S i:Nat):Bool:=F.testBit i&&(!S.testBit i&&G (S|||2^i))
def Ox:Nat->Nat->Option (List Nat)
 |0,_=>none|k+1,S=>if S=F then some []else(List.range n).findSome? λi=>if nZ F G S i=true then(Ox k (S|||2^i)).map (i::·)else none
def lst(S:Nat):Option (List Nat):=Ox n F G (F-S+1) S
def Kq:Nat->List Nat->Prop
 |S,[]=>S=F|S,i::l=>nZ F G S i=true/\Kq (S|||2^i) l
theorem zPO{a:Type}{l:List U}{f g:U->Option a}(h:∀x∈l,f x=g x):l.findSome? f=l.findSome? g:=by
 induction l with
 |nil=>rfl|cons x r b=>
  grind
theorem jS{G:Nat->Bool}(a:nZ h G D V=true):h.testBit V=true/\D.testBit V=false/\G (D|||2^V)=true:=by
 unfold nZ at a
 grind
theorem zMB(k c S:Nat)(e:VU S F)(h:F-S<k)(j:F-S<c):Ox n F G k S=Ox n F G c S:=by
 induction k generalizing c S with
 |zero=>omega|succ k g=>
  cases c with
  |zero=>omega|succ c=>
   unfold Ox;by_cases f:S=F
   ·grind
   ·rw[AP f,AP f]
    refine zPO λi _=>?_
    by_cases d:nZ F G S i=true
    ·obtain⟨a,b,_⟩:=jS d
     have l:=Tc b;have m:=(e.or a).le;rw[g c (S|||2^i) (e.or a) (by omega) (by omega)]
    ·grind
theorem X9(e:VU h F)(c:h≠F):lst n F G h=(List.range n).findSome? λi=>if nZ F G h i=true then(lst n F G (h|||2^i)).map (i::·)else none:=by
 have f:=e.le;unfold lst
 conv=>lhs;unfold Ox
 rw[AP c];refine zPO λi _=>?_
 by_cases d:nZ F G h i=true
 ·obtain⟨a,b,_⟩:=jS d
  have g:=Tc b;rw[zMB n F G _ (F-(h|||2^i)+1) _ (e.or a) (by omega) (by omega)]
 ·grind
theorem Y1:lst n F G F=some []:=by
 unfold lst Ox
 grind
theorem zRC{f:Nat->Option U}{i:Nat}{v:U}(b:i<h)(a:f i=some v)(c:∀j,j<i->f j=none):(List.range h).findSome? f=some v:=by
 induction h with
 |zero=>omega|succ h d=>
  rw[OT]
  grind
theorem zOV{f:Nat->Option U}{v:U}(a:(List.range h).findSome? f=some v):∃i,i<h/\f i=some v/\∀j,j<i->f j=none:=by
 induction h with
 |zero=>simp at a|succ h b=>
  rw[OT]at a;cases c:(List.range h).findSome? f with
  |some u=>
   grind
  |none=>
   grind
def zRh(P:Nat->Prop)(h:∀S,VU S F->(∀i,nZ F G S i=true->P (S|||2^i))->P S):∀S,VU S F->P S:=by
 have:∀k S,F-S<k->VU S F->P S:=by
  intro k;induction k with
  |zero=>intro S e;omega
  |succ k f=>
   intro S e c;refine h S c λi d=>?_
   obtain⟨a,b,_⟩:=jS d;have g:=Tc b;have j:=(c.or a).le;exact f _ (by omega) (c.or a)
 exactλS c=>this (F-S+1) S (by omega) c
def zSn(S:Nat)(d:VU S F):∀l,lst n F G S=some l->Kq F G S l:=by
 refine zRh F G (λS=>∀l,lst n F G S=some l->Kq F G S l) (λS d f l a=>?_) S d;by_cases e:S=F
 ·subst e
  rw[Y1]at a;injection a with a;subst a;rfl
 ·rw[X9 n F G d e]at a
  obtain⟨i,_,c,_⟩:=zOV a;split at c
  ·rename_i b
   rw[LP]at c;obtain⟨r,g,rfl⟩:=c;exact⟨b,f i b r g⟩
  ·cases c
theorem Y2{n:Nat}(b:h<2^n)(a:h.testBit D=true):D<n:=by
 rcases MG D n with g|g
 ·exact g
 ·have:=qy (GV b (OM (by omega) g))
  grind
end
def zUV(k:IntKind)(a b:Int):(yW k).eq a b=true↔a=b:=by exact KL
def Kr(n F:Nat)(G:Nat->Bool)(d:List (Int×Bool)):Prop:=∀T:Nat,VU T F->(tO (yW .i64).eq d (T:Int)).getD false=true->lst n F G T=none
theorem zTU{p:xH}(h:iW p):∀(c S:Nat) (d:List (Int×Bool)) (o:List Int),VU S (yD p)->yD p-S<c->o.length+(yD p-S)<=300->Kr p.Now.length (yD p) (uK p) d->
  ∃f,Kr p.Now.length (yD p) (uK p) f/\Jy (yD p:Int) p c d (S:Int) o=some (f,match lst p.Now.length (yD p) (uK p) S with|some l=>(o++iz l,true)|none=>([],false))
 |0,S,d,o,_,X,_,_=>by omega|c+1,S,d,o,F,X,ho,R=>by
  have hF:yD p<256:=Ic h.WJ;have Y:=F.le;show∃f,_/\Xa (yD p:Int) p (Jy (yD p:Int) p c) d (S:Int) o=_;unfold Xa;by_cases G:S=yD p
  ·subst G
   have e:((yD p:Int)==(yD p:Int))=true:=by simp
   rw[e,Y1];exact⟨d,R,by simp⟩
  ·have e:((S:Int)==(yD p:Int))=false:=by rw[XI];exact_mod_cast G
   rw[e];simp only[BB];have v:=X9 p.Now.length (yD p) (uK p) F G
   have key:∃r,bnd (zZ (τ:=(List (Int×Bool)×(List Int×Bool))⊕(List (Int×Bool))) (λ(g:Int×(List (Int×Bool)))=>bif decide (g.1<(p.Now.length:Int))then
     bnd (cK .i64 1 g.1) λC=>bnd (Dp .i64 (yD p:Int) g.1) λZ=>
     bif((uJ .i64 Z 1)==0)then some (.next (wrap .i64 (g.1+1),g.2))else
     bif((GR .i64 (S:Int) C)==(S:Int))then some (.next (wrap .i64 (g.1+1),g.2))else
     bif(tO (yW .i64).eq g.2 (GR .i64 (S:Int) C)).getD false then some (.next (wrap .i64 (g.1+1),g.2))else
     bnd (qH p (GR .i64 (S:Int) C)) λr1=>bif !r1 then some (.next (wrap .i64 (g.1+1),g.2))else
     bnd (app 8 o [g.1]) λl1=>bnd (Jy (yD p:Int) p c g.2 (GR .i64 (S:Int) C) l1) λD=>
     bif D.2.2 then some (.done (.inl (D.1,D.2.1,true)))else some (.next (wrap .i64 (g.1+1),D.1))
     else some (.done (.inr g.2))) (0,d)) (λo2=>xX o2 λo3=>some (iH (yW .i64).eq o3 (S:Int) true,[],false))=some r/\
     (Kr p.Now.length (yD p) (uK p) r.1/\r.2=match lst p.Now.length (yD p) (uK p) S with|some l=>(o++iz l,true)|none=>([],false)):=by
    refine zCW (λs=>∃i:Nat,i<=p.Now.length/\s.1=(i:Int)/\Kr p.Now.length (yD p) (uK p) s.2/\∀j,j<i->(if nZ (yD p) (uK p) S j=true then(lst p.Now.length (yD p) (uK p) (S|||2^j)).map (j::·)else none)=none)
     (λs=>p.Now.length-s.1.toNat)
     (λt=>match t with
      |.inl r=>Kr p.Now.length (yD p) (uK p) r.1/\∃l,lst p.Now.length (yD p) (uK p) S=some l/\r.2=(o++iz l,true)|.inr f=>Kr p.Now.length (yD p) (uK p) f/\lst p.Now.length (yD p) (uK p) S=none) ⟨0,by omega,O,R,λj hj=>by omega⟩ (λs hI=>?_) (λt U=>?_)
    ·obtain⟨i,hi,y,k,E⟩:=hI
     obtain⟨g,m⟩:=s;simp only at y k;subst y;by_cases z:i<p.Now.length
     ·have H:i<8:=by have:=h.WJ;omega
      have d0:decide ((i:Int)<(p.Now.length:Int))=true:=by simp;omega
      have I:yD p/2^i<4611686018427387904:=NK (MF _ _) (by omega);have V:S<256:=by omega
      have hw:=zV z (by have:=h.WJ;omega)
      have b:∀f,Kr p.Now.length (yD p) (uK p) f->(if nZ (yD p) (uK p) S i=true then(lst p.Now.length (yD p) (uK p) (S|||2^i)).map (i::·)else none)=none->
        ∃J:Nat,J<=p.Now.length/\(((i+1:Nat):Int),f).1=(J:Int)/\Kr p.Now.length (yD p) (uK p) (((i+1:Nat):Int),f).2/\∀j,j<J->(if nZ (yD p) (uK p) S j=true then(lst p.Now.length (yD p) (uK p) (S|||2^j)).map (j::·)else none)=none:=
       λf q K=>⟨i+1,by omega,O,q,λj hj=>by
        by_cases L:j=i
        ·subst L;exact K
        ·exact E j (by omega)⟩
      have n:∀f:List (Int×Bool),p.Now.length-(((i+1:Nat):Int),f).1.toNat<p.Now.length-((i:Int),m).1.toNat:=λf=>by omega
      simp only[d0,BD,Xq H,yBD (a:=yD p) (i:=i) (by omega),AA,X6 I,yAI,Xr V H,zZs,hw];cases w:(yD p).testBit i
      ·refine .inl ⟨_,O,b m k ?_,n m⟩
       rw[AP];unfold nZ;simp[w]
      cases x:S.testBit i
      ·have M:=yAN V H
       have u:=F.or w;cases N:(tO (yW .i64).eq m ((S|||2^i:Nat):Int)).getD false
       ·simp only[BB,yAw h M,AA]
        cases A:uK p (S|||2^i)
        ·refine .inl ⟨_,O,b m k ?_,n m⟩
         rw[AP];unfold nZ;simp[A]
        ·have hlt:=Tc x
         have B:nZ (yD p) (uK p) S i=true:=by unfold nZ;simp[w,x,A]
         rw[wF (by simp;omega) (by simp;omega)];simp only[AA];obtain⟨f,q,hm⟩:=zTU h c (S|||2^i) m (o++[(i:Int)]) u (by omega) (by simp;omega) k;rw[hm];cases W:lst p.Now.length (yD p) (uK p) (S|||2^i)with
         |none=>
          refine .inl ⟨_,O,b f q ?_,n f⟩;rw[AQ B,W];rfl
         |some l=>
          refine .inr ⟨_,O,q,i::l,?_,?_⟩
          ·rw[v]
           refine zRC z ?_ E;rw[AQ B,W];rfl
          ·simp[iz]
       ·refine .inl ⟨_,O,b m k ?_,n m⟩
        have:=k _ u N;rw[this];simp
      ·refine .inl ⟨_,O,b m k ?_,n m⟩
       rw[AP];unfold nZ;simp[x]
     ·have d0:decide ((i:Int)<(p.Now.length:Int))=false:=by simp;omega
      rw[d0]
      grind
    ·rcases t with r|f
     ·obtain⟨y,l,k,E⟩:=U
      refine⟨r,O,y,?_⟩;rw[k,E]
     ·obtain⟨y,k⟩:=U
      refine⟨_,O,?_,by rw[k]⟩;intro T hT P;rw[zID (zUV .i64)]at P;by_cases Q:(T:Int)=(S:Int)
      ·grind
      ·rw[AP Q]at P
       exact y T hT P
   grind
def Eu(p:xH):Option (List Nat):=lst p.Now.length (yD p) (uK p) 0
theorem zPF(p:xH):tU p=some (if uY p=0 then match Eu p with|some l=>(iz l,0)|none=>([],41)else([],(uY p:Int))):=by
 unfold tU;rw[zRW];simp;by_cases b:uY p=0
 ·have h:=Ov.1 b
  have e:((uY p:Int) !=0)=false:=by rw[b];rfl
  rw[e,zYh h.WJ h.len];simp;have f:yD p<256:=Ic h.WJ;obtain⟨g,_,c⟩:=zTU h Xb 0 [] [] (VU.zero _) (by unfold Xb;omega) (by simp;omega) (λT _ d=>by simp[tO]at d);have a:Jy (yD p:Int) p Xb [] 0 []=_:=c;rw[a];simp;unfold Eu
  grind
 ·grind
def wH(n F:Nat):List Nat:=(List.range n).filter F.testBit
def zOx{F i:Nat}(a:F<2^i):∀d,wH (i+d) F=wH i F
 |0=>rfl|d+1=>by have b:=zOx a d;unfold wH at*;rw[show i+(d+1)=(i+d)+1 by omega,OT,RS,b];have:F.testBit (i+d)=false:=qy (GV a (OM (by omega) (by omega)));simp[this]
def zZC(a:h<2^D)(b:h<2^V):wH D h=wH V h:=by
 rcases Nat.le_total D V with g|g
 ·rw[show V=D+(V-D)by omega,zOx a]
 ·rw[show D=V+(D-V)by omega,zOx b]
def eW(F i:Nat):wH (i+1) F=if F.testBit i=true then wH i F++[i]else wH i F:=by unfold wH;rw[OT,RS];cases h:F.testBit i<;>simp[h]
def zZc(p:xH):lO p=some (if uY p=0 then iz (wH p.Now.length (yD p))else[]):=by
 unfold lO;rw[zRW];simp only[AA];by_cases c:uY p=0
 ·have h:=Ov.1 c
  have e:((uY p:Int) !=0)=false:=by rw[c];rfl
  rw[e,AQ c,zYh h.WJ h.len];simp only[BB,AA];have D:yD p<256:=Ic h.WJ;have f:yD p<2^p.Now.length:=Sz _ _
  have key:∃r,bnd (zZ (τ:=List Int) (λ(b:List Int×Int×Int)=>bif decide (b.2.2>0)then bif((uJ .i64 b.2.2 1)==1)then bnd (app 8 b.1 [b.2.1]) λu=>some (.next (u,wrap .i64 (b.2.1+1),sI .i64 b.2.2 1))else(some (.next (b.1,wrap .i64 (b.2.1+1),sI .i64 b.2.2 1)))else some (.done b.1)) ([],0,(yD p:Int))) (λv=>some v)=some r/\r=iz (wH p.Now.length (yD p)):=by
   refine zCW (λs=>∃i:Nat,i<=8/\s=(iz (wH i (yD p)),(i:Int),((yD p/2^i:Nat):Int))) (λs=>9-s.2.1.toNat) (λt=>t=iz (wH p.Now.length (yD p))) ⟨0,by omega,by simp[wH]⟩ (λs w=>?_) (λt x=>⟨t,O,x⟩);obtain⟨i,E,rfl⟩:=w;have j:yD p/2^i<4611686018427387904:=NK (MF _ _) (by omega);by_cases hz:yD p/2^i=0
   ·have l:decide (((yD p/2^i:Nat):Int)>0)=false:=by rw[hz];rfl
    simp only[l,BB];refine .inr ⟨_,O,?_⟩
    have m:yD p<2^i:=by
     rcases MG (yD p) (2^i)with g|g
     ·exact g
     ·have:=Nat.div_pos g (Nat.two_pow_pos i)
      omega
    rw[zZC m f]
   ·have l:decide (((yD p/2^i:Nat):Int)>0)=true:=BK (Int.natCast_pos.2 (Nat.pos_of_ne_zero hz))
    have y:i<8:=by
     rcases MG i 8 with g|g
     ·exact g
     ·have:i=8:=by omega
      subst this;have:yD p/2^8=0:=XZ (by omega);omega
    have z:(uJ .i64 ((yD p/2^i:Nat):Int) 1==1)=(yD p).testBit i:=by rw[X6 j,zTX]
    have n:sI .i64 ((yD p/2^i:Nat):Int) 1=((yD p/2^(i+1):Nat):Int):=by have:=cO (k:=.i64) (a:=yD p/2^i) (s:=1) (by decide);rw[show((1:Nat):Int)=1 from O]at this;rw[this,Nat.div_div_eq_div_mul,<-Nat.pow_add]
    have A:=zV y (by omega)
    have o:app 8 (iz (wH i (yD p))) [(i:Int)]=some (iz (wH i (yD p)++[i])):=by have q:(wH i (yD p)).length<=8:=JU (OL _ _) (by simp;omega);rw[wF (by simp;omega) (by simp;omega)];simp[iz]
    simp only[l,BD,z,n,A];refine .inl ?_;cases d:(yD p).testBit i
    ·refine⟨_,O,⟨i+1,by omega,?_⟩,?_⟩
     ·rw[eW,d];rfl
     ·show 9-((i+1:Nat):Int).toNat<9-((i:Nat):Int).toNat
      omega
    ·simp only[BD,o,AA]
     refine⟨_,O,⟨i+1,by omega,?_⟩,?_⟩
     ·rw[eW,d];rfl
     ·show 9-((i+1:Nat):Int).toNat<9-((i:Nat):Int).toNat
      omega
  obtain⟨r,B,C⟩:=key;rw[B,C]
 ·have e:((uY p:Int) !=0)=true:=by rw[JY];exact_mod_cast c
  rw[e,AP c];rfl
def zQA{F:Nat}{G:Nat->Bool}{n:Nat}(g:F<2^n):∀{l:List Nat} {S:Nat},Kq F G S l->l.length+(wH n S).length=(wH n F).length
 |[],S,h=>by have:S=F:=h;subst this;simp|i::l,S,h=>by
  obtain⟨e,hp⟩:=h;obtain⟨a,b,_⟩:=jS e;have f:=Y2 g a;have k:=zQA g hp
  have key:(wH n (S|||2^i)).length=(wH n S).length+1:=by
   have:∀m,(wH m (S|||2^i)).length=(wH m S).length+(if i<m then 1 else 0):=by
    intro m;induction m with
    |zero=>simp[wH]|succ m c=>
     rw[eW,eW,X4];by_cases j:i=m
     ·subst j
      simp[b,c]
     ·simp only[j,QF,UN]
      cases S.testBit m
      ·simp only[MV,EI,c]
       by_cases d:i<m
       ·rw[AQ d,AQ (by omega)]
       ·rw[AP d,AP (by omega)]
      ·simp only[FO,ER,c,RP]
       by_cases d:i<m
       ·rw[AQ d,AQ (by omega)]
       ·rw[AP d,AP (by omega)]
   rw[this n,AQ f]
  rw[key]at k;rw[EP];omega
def zND{F:Nat}{G:Nat->Bool}:∀{l:List Nat} {S:Nat},Kq F G S l->∀i∈l,F.testBit i=true
 |[],S,h,i,a=>by cases a|j::l,S,h,i,a=>by
  obtain⟨b,hp⟩:=h;rcases EC.1 a with rfl|a
  ·exact(jS b).1
  ·exact zND hp i a
def yCf(h:iW I):uK I 0=true:=by unfold uK;rw[zTC h];exact h.Xo
def lE{b d:Type}{m:U->Option (wZ U b)}{e:U}{k:b->Option d}{R:d->Prop}(I:U->Prop)(μ:U->Nat)(Q:b->Prop)(g:I e)(h:∀s,I s->∃r,m s=some r/\match r with|.next a=>I a/\μ a<μ s|.done t=>Q t)(i:∀t,Q t->∃r,k t=some r/\R r):∃r,bnd (zZ m e) k=some r/\R r:=by
 refine zCW I μ Q g (λs j=>?_) i;obtain⟨r,f,c⟩:=h s j;cases r with
 |next a=>exact .inl ⟨a,f,c.1,c.2⟩|done t=>exact .inr ⟨t,f,c⟩
def eO:List ByteArray:=[⟨#[98,105,111,115]⟩,⟨#[99,112,108,100]⟩,⟨#[109,101]⟩,⟨#[112,115,117]⟩,⟨#[120,45,49]⟩,⟨#[122,122]⟩]
def zZj:bJ=some eO:=rfl
def eZ(l:List ByteArray):Bool:=decide (l.length<=8)&&(List.range l.length).all λi=>match l[i]?with
 |some x=>pY x&&(i==0||match l[i-1]?with|some y=>blt y x|none=>true)
 |none=>true
set_option maxRecDepth 20000 in
def zZD:∀k,k<7->eZ (eO.take k)=true:=by decide
set_option maxRecDepth 20000 in
def yBx:∀i,i<6->pY ((eO[i]?).getD ⟨#[]⟩)=true:=by decide
def jV{c:xT}(h:vB c){n:Int}(f:1<=n):∃r,yH c n=some r/\vB r.1/\0<=r.2/\r.2<n:=by obtain⟨a,x,b,d,e,g⟩:=zZt h n;exact⟨(a,x),b,d,e,by show x<n;omega⟩
def mD{b:Type}{x:Option U}{f:U->Option b}{P:U->Prop}{R:b->Prop}(h:∃a,x=some a/\P a)(k:∀a,P a->∃r,f a=some r/\R r):∃r,bnd x f=some r/\R r:=zYk h k
variable{E:List Nat}
def zLF(h:Eu I=some E):Kq (yD I) (uK I) 0 E:=zSn _ _ _ _ (VU.zero _) E h
def zLP(a:uY I=0)(hp:Kq (yD I) (uK I) 0 E):E.length<=8:=by have h:=Ov.1 a;have:=zQA (F:=yD I) (n:=I.Now.length) (Sz _ _) hp;have b:(wH I.Now.length (yD I)).length<=8:=JU (OL _ _) (by simp;exact h.WJ);omega
def mg:List Int->Option (zF×Nat)
 |k::n::r=>if n=128 then some (⟨k,[],true⟩,2)else if n>28\/(r.length:Int)<n then none else some (⟨k,r.take n.toNat,false⟩,2+n.toNat)|_=>none
def eE(k n:Int)(r:List Int):mg (k::n::r)=if n=128 then some (⟨k,[],true⟩,2)else if n>28\/(r.length:Int)<n then none else some (⟨k,r.take n.toNat,false⟩,2+n.toNat):=rfl
variable{A:List Int}{q:zF}
def Xu(b:EW A)(a:mg A=some (q,h)):2<=h/\h<=A.length:=by
 match A,a with
 |k::c::r,a=>
  rw[eE]at a;split at a
  ·injection a with a;injection a with _ a;subst a;simp
  ·split at a
   ·cases a
   ·rename_i d
    have:=b c (by simp);injection a with a;injection a with _ a;subst a;simp only[EP];omega
def dF{l:List U}{a b:Nat}(e:a<=b)(f:b<=l.length):Go.Proofs.YtjconpohbhlcmaaGreatDoor.sub l (a:Int) (b:Int)=some ((l.drop a).take (b-a)):=by unfold Go.Proofs.YtjconpohbhlcmaaGreatDoor.sub;rw[AQ ⟨by omega,by omega,by omega⟩];congr 1;have c:(a:Int).toNat=a:=rfl;have d:(b:Int).toNat=b:=rfl;rw[c,d,LD]
def zZd(o:Option (zF×Nat)):zF×Int×Bool:=match o with|some (x,n)=>(x,(n:Int),true)|none=>(⟨0,[],false⟩,0,false)
def zWB(e:EW A)(f:A.length<=16384):oY A=some (zZd (mg A)):=by
 unfold oY
 match A,e,f with
 |[],_,_=>rfl|[k],_,_=>rfl|k::c::r,e,f=>
  have h:=e c (by simp);simp only[EP]at f;have i:CO (k::c::r) 0=some k:=rfl;have j:CO (k::c::r) 1=some c:=rfl;rw[yI (by simp only[EP,JO];omega),j,AA,i,eE];by_cases d:c=128
  ·rw[yT (by simpa using d),AA,AQ d]
   rfl
  ·rw[yI (by simpa using d),AP d]
   obtain⟨n,q,rfl⟩:=pD h;have m:wrap .i64 (2+wrap .i64 (n:Int))=((2+n:Nat):Int):=by rw[xN (by omega),yF (by omega) (by omega)];omega
   rw[m];by_cases g:(n:Int)>28
   ·rw[yT (by simpa using g),AA,BD,AQ (.inl g)]
    rfl
   ·rw[yI (by simpa using g),AA]
    by_cases o:(r.length:Int)<(n:Int)
    ·rw[yT (by simp only[EP,FP];omega),AQ (.inr o)]
     rfl
    ·rw[yI (by simp only[EP,JO];omega),AA,AP (by omega)]
     have p:Go.Proofs.YtjconpohbhlcmaaGreatDoor.sub (k::(n:Int)::r) 2 ((2+n:Nat):Int)=some (r.take n):=by have:=dF (l:=k::(n:Int)::r) (a:=2) (b:=2+n) (by omega) (by simp;omega);rw[OD]at this;exact this
     rw[p,AA,gE (by simp;omega),AA];rfl
def jB:Nat->List Int->Option (List zF×Nat)
 |0,_=>some ([],0)|c+1,b=>match mg b with
  |none=>none|some (x,n)=>match jB c (b.drop n)with
   |none=>none|some (l,m)=>some (x::l,n+m)
def zIH:∀(c:Nat) {b:List Int} {l:List zF} {n:Nat},EW b->jB c b=some (l,n)->n<=b.length/\l.length=c
 |0,b,l,n,_,h=>by injection h with h;injection h with a d;subst a;subst d;simp
 |c+1,b,l,n,e,h=>by
  unfold jB at h;split at h
  ·cases h
  ·rename_i x k f
   split at h
   ·cases h
   ·rename_i i m g
    injection h with h;injection h with a d;subst a;subst d;have j:=Xu e f;have o:=zIH c (e.drop k) g;simp only[EM,EP]at*;omega
def qS:List Int->Option (List zF×Nat)
 |[]=>none|c::r=>if c<1\/c>32 then none else match jB c.toNat r with
  |none=>none|some (l,n)=>if r[n]?=some 0 then some (l,n+2)else none
def nB(c:Int)(r:List Int):qS (c::r)=if c<1\/c>32 then none else match jB c.toNat r with
 |none=>none|some (l,n)=>if r[n]?=some 0 then some (l,n+2)else none:=rfl
variable{B:List zF}
def nQ(d:EW A)(a:qS A=some (B,h)):2<=h/\h<=A.length:=by
 match A,a with
 |c::r,a=>
  rw[nB]at a;split at a
  ·cases a
  ·split at a
   ·cases a
   ·rename_i e m f
    split at a
    ·rename_i b
     injection a with a;injection a with _ a;subst a;have:=(FT.1 b).1;simp only[EP];omega
    ·cases a
def zKM(o:Option (List zF×Nat)):List zF×Int×Bool:=match o with|some (l,n)=>(l,(n:Int),true)|none=>([],0,false)
def Xv(c:List Int)(d:Int):List zF×Int×Int->Option (wZ (List zF×Int×Int) (((List zF)×Int×Bool)⊕(List zF×Int))):=
 (λ(a:List zF×Int×Int)=>bif decide (a.2.2<d)then bnd (Go.Proofs.YtjconpohbhlcmaaGreatDoor.sub c a.2.1 (c.length:Int)) λe=>bnd (oY e) λb=>bif !b.2.2 then some (.done (.inl ([],0,false)))else(bnd (app 40 a.1 [b.1]) λf=>some (.next (f,wrap .i64 (a.2.1+b.2.1),wrap .u8 (a.2.2+1))))else some (.done (.inr (a.1,a.2.1))))
def zLR{b:List Int}(j:EW b)(t:b.length<=16384)(c:Nat)(u:c<=32):∀(k i a:Nat) (e:List zF),i+k=c->a<=b.length->e.length<=i->
  zZ (Xv b (c:Int)) (e,(a:Int),(i:Int))=some (match jB k (b.drop a)with|none=>.inl ([],0,false)|some (l,n)=>.inr (e++l,((a+n:Nat):Int)))
 |0,i,a,e,h,_,_=>by refine yV ?_;unfold Xv;simp only;rw[yI (by simp;omega)];simp[jB]|k+1,i,a,e,h,o,s=>by
  have g:Go.Proofs.YtjconpohbhlcmaaGreatDoor.sub b (a:Int) (b.length:Int)=some (b.drop a):=by rw[dF o (FN _)];congr 1;rw[IU (by simp)]
  have d:Xv b (c:Int) (e,(a:Int),(i:Int))=some (match mg (b.drop a)with|none=>.done (.inl ([],0,false))|some (x,n)=>.next (e++[x],((a+n:Nat):Int),((i+1:Nat):Int))):=by
   unfold Xv;simp only;rw[yT (by simp;omega),g,AA,zWB (j.drop _) (by simp;omega),AA];cases f:mg (b.drop a)with
   |none=>rfl|some p=>
    obtain⟨x,n⟩:=p;have r:=Xu (j.drop _) f;simp only[EM]at r;simp only[zZd,EG,BB];rw[wF (by simp;omega) (by simp;omega),AA,yF (by omega) (by omega),Nj (by omega) (by omega)];rfl
  unfold jB;cases f:mg (b.drop a)with
  |none=>rw[f]at d;exact yV d|some p=>
   obtain⟨x,n⟩:=p;have r:=Xu (j.drop _) f;simp only[EM]at r;rw[f]at d;refine xV d ?_;rw[zLR j t c u k (i+1) (a+n) (e++[x]) (by omega) (by omega) (by simp;omega)];simp only[IV];cases v:jB k (b.drop (a+n))with
   |none=>rfl|some q=>
    obtain⟨l,m⟩:=q;simp only[FH,List.singleton_append];rw[LG]
def zYN(a:EW A)(f:A.length<=16384):mX A=some (zKM (qS A)):=by
 unfold mX
 match A,a,f with
 |[],_,_=>rfl|c::r,a,f=>
  have k:=a c (by simp);have o:CO (c::r) 0=some c:=rfl;have g:EW r:=λx p=>a x (by simp[p])
  simp only[EP]at f;rw[yI (by simp only[EP,XI,JZ];omega),o,AA,nB];by_cases h:c<1
  ·rw[yT (by simpa using h),AA,BD,AQ (.inl h)]
   rfl
  ·rw[yI (by simpa using h),AA]
   by_cases i:c>32
   ·rw[yT (by simpa using i),AQ (.inr i)]
    rfl
   ·rw[yI (by simpa using i),AA,AP (by omega)]
    obtain⟨n,u,rfl⟩:=pD k;have b:=zLR a (by simp;omega) n (by omega) n 0 1 [] (by omega) (by simp) (by simp);unfold Xv at b;refine yL b ?_;have s:(n:Int).toNat=n:=rfl;rw[vw,NR,s];cases j:jB n r with
    |none=>rfl|some q=>
     obtain⟨l,m⟩:=q;have v:=(zIH n g j).1;simp only[JI,FD,EP];by_cases w:1+m=r.length+1
     ·rw[yT (by simp;omega),AA,BD,AP (by rw[MP (by omega)];simp)]
      rfl
     ·have d:m<r.length:=by omega
      have t:CO ((n:Int)::r) ((1+m:Nat):Int)=some r[m]:=by rw[IA,KU,TU,CJ d]
      rw[yI (by simp;omega),t,AA,AA,CJ d];by_cases e:r[m]=0
      ·rw[yI (by simpa using e),AQ (by rw[e]),yF (by omega) (by omega)]
       simp only[zKM];congr 3;omega
      ·rw[yT (by simpa using e),AP (by simpa using e)]
       rfl
def dZ(x:zF):List Int:=if x.Delete then[x.Key,128]else x.Key::wrap .u8 (x.Value.length:Int)::x.Value
def wR(l:List zF):List Int:=wrap .u8 (l.length:Int)::l.flatMap dZ++[0]
def zQv(x:zF):2<=(dZ x).length/\(dZ x).length<=2+x.Value.length:=by
 unfold dZ;split
 ·simp
 ·simp only[EP]
  omega
def zTL{l:List zF}(h:∀x∈l,x.Value.length<=1000):(l.flatMap dZ).length<=l.length*1002:=by
 induction l with
 |nil=>simp|cons x r a=>
  have b:=(zQv x).2;have c:=h x (by simp);have d:=a λy hy=>h y (by simp[hy])
  simp only[OI,ER,EP];omega
def zNu(f:B.length<=1000)(c:∀x∈B,x.Value.length<=1000):nH B=some (wR B):=by
 unfold nH
 have d:∀i,i<=B.length->(wrap .u8 (B.length:Int)::(B.take i).flatMap dZ).length<=1+i*1002:=λi a=>by
  have:=zTL (l:=B.take i) λx g=>c x (OE g)
  simp only[DV,EP]at*;rw[NP a]at this;omega
 refine xM (λi=>(wrap .u8 (B.length:Int)::(B.take i).flatMap dZ,(i:Int))) B.length (wrap .u8 (B.length:Int)::B.flatMap dZ) O (λi a=>?_) ?_ ?_
 ·have b:=d i (by omega)
  have j:=c B[i] (DJ a);have h:i*1002<=1000*1002:=MR _ (by omega);simp only;rw[yT (by simp;omega),yN a,AA,xA a,XJ];simp only[OI,YA,MB];have hE:∀(z:List Int),(wrap .u8 (B.length:Int)::((B.take i).flatMap dZ++z))=(wrap .u8 (B.length:Int)::(B.take i).flatMap dZ)++z:=λz=>O
  rw[hE];generalize e:wrap .u8 (B.length:Int)::(B.take i).flatMap dZ=pre at b⊢;unfold dZ;cases k:B[i].Delete
  ·simp only[BB]
   rw[wF (by simp;omega) (by simp;omega),AA,wF (by simp;omega) (by simp;omega),AA,zV a (by omega)];simp
  ·simp only[BD]
   rw[wF (by simp;omega) (by simp;omega),AA,zV a (by omega)];simp
 ·simp only
  rw[yI (by simp),GU]
 ·have b:=d B.length (FN _)
  rw[GU]at b;have h:B.length*1002<=1000*1002:=MR _ f;rw[wF (by simp only[EP,KC]at*;omega) (by simp only[EP,KC]at*;omega),AA];rfl
def sG(b:List Int):Bool:=b.all λx=>x==255
def zRM{b:List Int}(q:b.length<=16384):mM b=some (sG b):=by
 unfold mM uO tT
 have g:∀i (h:i<b.length),(λi:Nat=>if(b.getD i 255 !=255)then some (.inl (i:Int):Int⊕Unit)else none) i=if(λx:Int=>x !=255) b[i]then some ((λ(i:Nat) (_:Int)=>(.inl (i:Int):Int⊕Unit)) i b[i])else none:=λi h=>by simp only[IC,CJ h,GK]
 have f:=O0 (m:=λ(c:Int)=>bif decide (c<(b.length:Int))then bnd (CO b c) λj=>bnd (oI j) λk=>bif k then some (.done (.inl c:Int⊕Unit))else(some (.next (wrap .i64 (c+1))))else some (.done (.inr ()))) (λi=>(i:Int)) b.length (λi=>if(b.getD i 255 !=255)then some (.inl (i:Int):Int⊕Unit)else none) (t:=.inr ()) (λi a=>?_) ?_
 ·have l:((0:Nat):Int)=0:=rfl
  rw[l]at f;rw[f,AA];rcases O1 b (λx=>x !=255) (λi _=>(.inl (i:Int):Int⊕Unit)) _ g with⟨i,a,n,_,e⟩|⟨_,o,e⟩
  ·rw[e]
   simp only[GK,QK,AA];congr 1
   have:sG b=false:=by unfold sG;rw[List.all_eq_false];exact⟨b[i],DJ a,by simpa using n⟩
   rw[this];simp
  ·rw[e]
   simp only[Option.getD_none,FD,AA];congr 1
   have:sG b=true:=by unfold sG;rw[List.all_eq_true];intro x p;simpa using o x p
   rw[this];rfl
 ·rw[yT (by simp;omega),yN a,AA]
  unfold oI;rw[AA,IC,CJ a];simp only[GK];by_cases d:b[i]=255
  ·rw[yI (by simpa using d),zV a (by omega),AP (by simpa using d)]
  ·rw[yT (by simpa using d),AQ (by simpa using d)]
 ·rw[yI (by simp)]
def Y3:sG A=true↔A=List.replicate A.length 255:=by unfold sG;rw[List.all_eq_true,ug];simp
abbrev lX:=List (Int×List Int)
def eB(m:lX)(k:Int):Option (List Int):=tO (yW .u8).eq m k
def Gn(m:lX)(k:Int)(v:List Int):lX:=iH (yW .u8).eq m k v
def Ie(m:lX)(k:Int):lX:=Ai (yW .u8).eq m k
def nW(m:lX):List Int:=m.map (·.1)
def aA(a b:Int):(yW .u8).eq a b=true↔a=b:=by show(a==b)=true↔_;simp
def zVm(m:lX)(k a:Int)(v:List Int):eB (Gn m k v) a=if a=k then some v else eB m a:=zID aA m k a v
def Y4(x:Int×List Int)(r:lX)(k:Int):eB (x::r) k=if k=x.1 then some x.2 else eB r k:=by
 show(bif(yW .u8).eq k x.1 then some x.2 else tO (yW .u8).eq r k)=_;by_cases h:k=x.1
 ·rw[(aA k x.1).2 h,AQ h];rfl
 ·have:(yW .u8).eq k x.1=false:=by cases a:(yW .u8).eq k x.1;rfl;exact absurd ((aA k x.1).1 a) h
  rw[this,AP h];rfl
def zLt(x:Int×List Int)(r:lX)(k:Int)(v:List Int):Gn (x::r) k v=if k=x.1 then(k,v)::r else x::Gn r k v:=by
 show(bif(yW .u8).eq k x.1 then(k,v)::r else x::iH (yW .u8).eq r k v)=_;by_cases h:k=x.1
 ·rw[(aA k x.1).2 h,AQ h];rfl
 ·have:(yW .u8).eq k x.1=false:=by cases a:(yW .u8).eq k x.1;rfl;exact absurd ((aA k x.1).1 a) h
  rw[this,AP h];rfl
def zGG(x:Int×List Int)(r:lX)(k:Int):Ie (x::r) k=if k=x.1 then r else x::Ie r k:=by
 show(bif(yW .u8).eq k x.1 then r else x::Ai (yW .u8).eq r k)=_;by_cases h:k=x.1
 ·rw[(aA k x.1).2 h,AQ h];rfl
 ·have:(yW .u8).eq k x.1=false:=by cases a:(yW .u8).eq k x.1;rfl;exact absurd ((aA k x.1).1 a) h
  rw[this,AP h];rfl
def cS(x:Int×List Int)(r:lX):nW (x::r)=x.1::nW r:=rfl
variable{M:Int}{R:lX}
def zFP:eB R M=none↔M∉nW R:=by
 induction R with
 |nil=>simp[eB,tO,nW]|cons x r a=>
  rw[Y4,cS,EC];by_cases h:M=x.1
  ·simp[h]
  ·rw[AP h,a]
   simp[h]
variable{y:Int}
def zMc(h:y∈nW (Ie R M)):y∈nW R:=by
 induction R with
 |nil=>exact h|cons a r b=>
  rw[cS,EC];rw[zGG]at h;split at h
  ·exact .inr h
  ·rw[cS,EC]at h
   rcases h with h|h
   ·exact .inl h
   ·exact .inr (b h)
def zMr(h:y∈nW (Gn R M A)):y=M\/y∈nW R:=by
 induction R with
 |nil=>left;simpa[Gn,iH,nW]using h|cons a r b=>
  rw[cS,EC];rw[zLt]at h;split at h
  ·rw[cS,EC]at h
   rcases h with h|h
   ·exact .inl h
   ·exact .inr (.inr h)
  ·rw[cS,EC]at h
   rcases h with h|h
   ·exact .inr (.inl h)
   ·rcases b h with h|h
    ·exact .inl h
    ·exact .inr (.inr h)
def WC(m:lX):Prop:=(nW m).Nodup
def WC.set(h:WC R)(k:Int)(v:List Int):WC (Gn R k v):=by
 induction R with
 |nil=>simp[WC,Gn,iH,nW]|cons y r c=>
  have a:=KT.1 h;rw[zLt];split
  ·rename_i e
   exact KT.2 ⟨by rw[e];exact a.1,a.2⟩
  ·rename_i e
   refine KT.2 ⟨λb=>?_,c a.2⟩;rcases zMr b with d|b
   ·exact e d.symm
   ·exact a.1 b
def WC.del(h:WC R)(k:Int):WC (Ie R k):=by
 induction R with
 |nil=>exact h|cons y r b=>
  have a:=KT.1 h;rw[zGG];split
  ·exact a.2
  ·exact KT.2 ⟨λc=>a.1 (zMc c),b a.2⟩
def zVI(h:WC R)(k b:Int):eB (Ie R k) b=if b=k then none else eB R b:=by
 induction R with
 |nil=>simp[eB,Ie,Ai,tO]|cons y r d=>
  have f:=KT.1 h;have d:=d f.2;rw[zGG];by_cases c:k=y.1
  ·rw[AQ c]
   by_cases a:b=k
   ·rw[AQ a,zFP,a,c]
    exact f.1
   ·rw[AP a,Y4,AP (by rw[<-c];exact a)]
  ·rw[AP c,Y4,d,Y4]
   by_cases a:b=y.1
   ·rw[AQ a,AP (by rw[a];exactλe=>c e.symm),AQ a]
   ·rw[AP a,AP a]
def Asc(K:List zF):Prop:=K.Pairwise λa b=>a.Key<b.Key
def Nd(K:List zF):Prop:=∀x∈K,x.Delete=false
def nS(K:List zF)(k:Int):Option (List Int):=(K.find? λx=>x.Key==k).map (·.Value)
def zKt(k:Int):nS [] k=none:=rfl
def tF(x:zF)(K:List zF)(k:Int):nS (x::K) k=if x.Key=k then some x.Value else nS K k:=by
 unfold nS;rw[UF];by_cases h:x.Key=k
 ·simp[h]
 ·have:(x.Key==k)=false:=by simpa using h
  rw[this,AP h]
def Td:nS B M=none↔∀x∈B,x.Key≠M:=by unfold nS;rw[rf,List.find?_eq_none];simp
def zOz:∀{e f:List zF},Asc e->Asc f->Nd e->Nd f->(∀k,nS e k=nS f k)->e=f
 |[],[],_,_,_,_,_=>rfl|[],b::r,_,_,_,_,h=>by have:=h b.Key;rw[zKt,tF,AQ O]at this;cases this|a::r,[],_,_,_,_,h=>by have:=h a.Key;rw[zKt,tF,AQ O]at this;cases this|a::t,b::u,v,w,o,p,h=>by
  have g:=NJ.1 v;have i:=NJ.1 w
  have j:a.Key=b.Key:=by
   rcases Int.lt_trichotomy a.Key b.Key with y|l|z
   ·exfalso
    have:=h a.Key;rw[tF,AQ O,tF,AP (by omega)]at this;have m:nS u a.Key=none:=Td.2 λx c=>by have:=i.1 x c;omega
    rw[m]at this;cases this
   ·exact l
   ·exfalso
    have:=h b.Key;rw[tF,AP (by omega),tF,AQ O]at this;have m:nS t b.Key=none:=Td.2 λx c=>by have:=g.1 x c;omega
    rw[m]at this;cases this
  have q:a.Value=b.Value:=by have:=h a.Key;rw[tF,AQ O,tF,AQ j.symm]at this;injection this
  have s:a.Delete=b.Delete:=(o a (by simp)).trans (p b (by simp)).symm
  have n:a=b:=by obtain⟨A,B,C⟩:=a;obtain⟨bk,D,bd⟩:=b;simp only at j q s;subst j;subst q;subst s;rfl
  subst n;congr 1;refine zOz g.2 i.2 (λx c=>o x (by simp[c])) (λx c=>p x (by simp[c])) λk=>?_
  by_cases d:a.Key=k
  ·rw[Td.2 (λx c=>by have:=g.1 x c;omega),Td.2 (λx c=>by have:=i.1 x c;omega)]
  ·have:=h k
   rwa [tF,AP d,tF,AP d]at this
def NI(K:List zF)(c:zF):List zF:=
 if c.Delete then K.filter λx=>x.Key !=c.Key else(K.filter λx=>decide (x.Key<c.Key))++c::K.filter λx=>decide (c.Key<x.Key)
def wS(K:List zF)(l:List zF):List zF:=l.foldl NI K
def zKA(h:Asc B)(c:zF):Asc (NI B c):=by
 unfold NI;split
 ·exact h.sublist XK
 ·refine XE.2 ⟨h.sublist XK,NJ.2 ⟨λx a=>?_,h.sublist XK⟩,λx a y hy=>?_⟩
  ·have:=(KH.1 a).2
   simpa using this
  ·have b:=(KH.1 a).2
   simp only[FP]at b;rcases EC.1 hy with rfl|hy
   ·exact b
   ·have d:=(KH.1 hy).2
    simp only[FP]at d;omega
def zUf(h:Nd B)(c:zF):Nd (NI B c):=by
 unfold NI;split
 ·exactλx a=>h x (KH.1 a).1
 ·rename_i b
  intro x a;rcases DW.1 a with a|a
  ·exact h x (KH.1 a).1
  ·rcases EC.1 a with rfl|a
   ·simpa using b
   ·exact h x (KH.1 a).1
def zEH(K:List zF)(p:zF->Bool)(k:Int)(hp:∀x∈K,x.Key=k->p x=true):nS (K.filter p) k=nS K k:=by
 induction K with
 |nil=>rfl|cons y r a=>
  have a:=a λx b=>hp x (by simp[b])
  rw[NY,tF];by_cases hy:y.Key=k
  ·rw[AQ (hp y (by simp) hy),tF,AQ hy,AQ hy]
  ·rw[AP hy]
   split
   ·rw[tF,AP hy,a]
   ·exact a
def iP(K:List zF)(p:zF->Bool)(k:Int)(hp:∀x∈K,x.Key=k->p x=false):nS (K.filter p) k=none:=by rw[Td];intro x a e;have:=KH.1 a;rw[hp x this.1 e]at this;exact absurd this.2 (by decide)
def zQk(K L:List zF)(k:Int):nS (K++L) k=(nS K k).or (nS L k):=by unfold nS;rw[XU];cases K.find? _<;>rfl
def zOa(K:List zF)(c:zF)(k:Int):nS (NI K c) k=if k=c.Key then if c.Delete then none else some c.Value else nS K k:=by
 unfold NI;by_cases a:k=c.Key
 ·subst a
  rw[AQ O];split
  ·exact iP _ _ _ λx _ e=>by simp[e]
  ·rw[zQk,iP _ _ _ (λx _ e=>by simp[e]),tF,AQ O]
   rfl
 ·rw[AP a]
  split
  ·exact zEH _ _ _ λx _ e=>by simp[e,a]
  ·rw[zQk,tF,AP (λe=>a e.symm)]
   by_cases b:k<c.Key
   ·rw[zEH _ _ _ (λx _ e=>by simp[e,b]),iP _ _ _ (λx _ e=>by simp[e];omega)]
    cases nS K k<;>rfl
   ·rw[iP _ _ _ (λx _ e=>by simp[e];omega),zEH _ _ _ (λx _ e=>by simp[e];omega)]
    rfl
def Y5:∀{l K:List zF},Asc K->Asc (wS K l)
 |[],_,h=>h|c::l,_,h=>Y5 (l:=l) (zKA h c)
def zPb:∀{l K:List zF},Nd K->Nd (wS K l)
 |[],_,h=>h|c::l,_,h=>zPb (l:=l) (zUf h c)
def zQR:∀{l K:List zF} {x:zF},x∈wS K l->x∈K\/x∈l
 |[],_,_,h=>.inl h|c::l,K,x,h=>by
  rcases zQR (l:=l) h with h|h
  ·unfold NI at h
   split at h
   ·exact .inl (KH.1 h).1
   ·rcases DW.1 h with h|h
    ·exact .inl (KH.1 h).1
    ·rcases EC.1 h with rfl|h
     ·exact .inr (by simp)
     ·exact .inl (KH.1 h).1
  ·exact .inr (by simp[h])
def Xw(l:List zF)(k:Int)(o:Option (List Int)):Option (List Int):=l.foldl (λo c=>if k=c.Key then if c.Delete then none else some c.Value else o) o
def zMV:∀(l K:List zF) (k:Int),nS (wS K l) k=Xw l k (nS K k)
 |[],_,_=>rfl|c::l,K,k=>by unfold wS Xw;rw[LW,LW,<-zOa];exact zMV l (NI K c) k
def aP(a:List Int):List Int:=a.mergeSort λx y=>decide (x<=y)
def Xx(a:List Int):(aP a).Perm a:=TV _ _
def zWb(h:A.Nodup):(aP A).Pairwise (·<·):=by
 have d:(aP A).Pairwise λx y=>decide (x<=y)=true:=WX (λa b c d e=>by simp only[FP]at*;omega) (λa b=>by simp only[KZ,FP];omega) A
 have e:(aP A).Nodup:=(Xx A).nodup_iff.2 h;have:=d.and e;refine this.imp λf=>?_
 simp only[FP,JZ]at f;omega
def toL(m:lX):List zF:=(aP (nW m)).map λk=>⟨k,(eB m k).getD [],false⟩
def zWK(m:lX):Nd (toL m):=λx a=>by obtain⟨k,_,rfl⟩:=FM.1 a;rfl
def zUb(h:WC R):Asc (toL R):=by unfold Asc toL;rw[List.pairwise_map];exact(zWb h).imp λh=>h
def Xy(m:lX):(toL m).length=m.length:=by unfold toL;rw[FQ,(Xx _).length_eq];simp[nW]
def Tf(m:lX)(k:Int):nS (toL m) k=eB m k:=by
 have key:∀(b:List Int),nS (b.map λk=>(⟨k,(eB m k).getD [],false⟩:zF)) k=if k∈b then some ((eB m k).getD [])else none:=by
  intro b;induction b with
  |nil=>rfl|cons a r c=>
   rw[GY,tF];by_cases h:a=k
   ·subst h;simp
   ·rw[AP h,c]
    have:k≠a:=λe=>h e.symm
    simp[this]
 unfold toL;rw[key];by_cases h:k∈nW m
 ·rw[AQ ((Xx _).mem_iff.2 h)]
  cases d:eB m k with
  |none=>exact absurd h (zFP.1 d)|some v=>rfl
 ·rw[AP (λf=>h ((Xx _).mem_iff.1 f)),zFP.2 h]
def ZR(m:lX)(l:List zF):lX:=l.foldl (λm c=>if c.Delete then Ie m c.Key else Gn m c.Key c.Value) m
def Ti:∀{l:List zF} {m:lX},WC m->WC (ZR m l)
 |[],_,h=>h|c::l,m,h=>by
  unfold ZR;rw[LW];split
  ·exact Ti (l:=l) (h.del _)
  ·exact Ti (l:=l) (h.set _ _)
def Y6:∀{l:List zF} {m:lX},WC m->toL (ZR m l)=wS (toL m) l
 |[],_,_=>rfl|c::l,m,h=>by
  unfold ZR wS;rw[LW,LW];have a:WC (if c.Delete=true then Ie m c.Key else Gn m c.Key c.Value):=by split;exact h.del _;exact h.set _ _
  have b:toL (if c.Delete=true then Ie m c.Key else Gn m c.Key c.Value)=NI (toL m) c:=by
   refine zOz (zUb a) (zKA (zUb h) c) (zWK _) (zUf (zWK _) c) λk=>?_
   rw[Tf,zOa,Tf];split
   ·rw[zVI h]
   ·rw[zVm]
  rw[<-b];exact Y6 (l:=l) a
def zQH(h:WC R):(ZR R B).length=(wS (toL R) B).length:=by rw[<-Y6 h,Xy]
def zPX(m:lX)(l:List zF)(c:l.length<=1000000)(b:∀x∈l,x.Value.length<=1000000):vV (some m) l=some (some (ZR m l)):=by
 unfold vV zEA;rw[AA];refine xM (λi=>((i:Int),some (ZR m (l.take i)))) l.length (some (ZR m l)) O (λi a=>?_) ?_ O
 ·have d:=b l[i] (DJ a)
  simp only;rw[yT (by simp;omega),yN a,AA,xA a,zV a (by omega)];unfold ZR;rw[XT,LW,YS];cases e:l[i].Delete
  ·rw[BB,gE (by omega),AA]
   rfl
  ·rw[BD]
   rfl
 ·simp only
  rw[yI (by simp),GU]
def zUY(p:WC R)(h:R.length<=eX)(l:∀k v,eB R k=some v->v.length<=1000000):uQ (some R)=some (toL R):=by
 unfold uQ zIB O6;have b:((some R:Option lX).getD [])=R:=rfl;have a:(aP (nW R)).length=R.length:=by rw[(Xx _).length_eq];simp[nW]
 have c:((R.map (·.1)).mergeSort λx y=>decide (x<=y))=aP (nW R):=rfl;rw[AA,b,AQ h,AA,c];have m:R.length<=1000:=JU h zLM;refine xM (λi=>((toL R).take i,(i:Int))) R.length (toL R) O (λi j=>?_) ?_ O
 ·have d:i<(aP (nW R)).length:=by omega
  have e:i<(toL R).length:=by rw[Xy];exact j
  have n:(toL R)[i]=⟨(aP (nW R))[i],(eB R (aP (nW R))[i]).getD [],false⟩:=by simp[toL]
  have f:((eB R (aP (nW R))[i]).getD []).length<=1000000:=by
   cases o:eB R (aP (nW R))[i]with
   |none=>simp|some v=>exact l _ v o
  simp only;rw[yT (by simp;omega),yN d,AA];have g:yG ((tO (yW .u8).eq R (aP (nW R))[i]).getD [])=some ((eB R (aP (nW R))[i]).getD []):=gE f;rw[g,AA,wF (by simp;omega) (by simp;omega),AA,zV j (by omega),xA e,n]
 ·simp only
  rw[yI (by rw[a];simp),<-Xy,GU]
structure ZT(x:zF):Prop where
 key:0<=x.Key/\x.Key<=255
 len:x.Value.length<=28
 EW:EW x.Value
 del:x.Delete=true->x.Value=[]
def yAA(b:EW A)(a:mg A=some (q,h)):ZT q:=by
 match A,a with
 |k::c::r,a=>
  have e:=b k (by simp);have g:=b c (by simp);have d:EW r:=λy hy=>b y (by simp[hy])
  rw[eE]at a;split at a
  ·injection a with a;injection a with a _;subst a
   exact⟨e,by simp,EW.nil,λ_=>O⟩
  ·split at a
   ·cases a
   ·rename_i i
    injection a with a;injection a with a _;subst a;exact⟨e,by simp;omega,d.take _,λf=>by cases f⟩
def zSa:∀(c:Nat) {b:List Int} {l:List zF} {n:Nat},EW b->jB c b=some (l,n)->∀x∈l,ZT x
 |0,b,l,n,_,h=>by injection h with h;injection h with a e;subst a;intro x f;cases f
 |c+1,b,l,n,d,h=>by
  unfold jB at h;split at h
  ·cases h
  ·rename_i x k g
   split at h
   ·cases h
   ·rename_i j m i
    injection h with h;injection h with a e;subst a;intro y hy;rcases EC.1 hy with rfl|hy
    ·exact yAA d g
    ·exact zSa c (d.drop k) i y hy
def zIE(e:EW A)(a:qS A=some (B,h)):1<=B.length/\B.length<=32/\∀x∈B,ZT x:=by
 match A,a with
 |c::r,a=>
  have b:EW r:=λy hy=>e y (by simp[hy])
  rw[nB]at a;split at a
  ·cases a
  ·rename_i f
   split at a
   ·cases a
   ·rename_i g m d
    split at a
    ·injection a with a;injection a with a _;subst a
     have:=(zIH _ b d).2;exact⟨by omega,by omega,zSa _ b d⟩
    ·cases a
structure QM(K:List zF):Prop where
 Tj:Asc K
 nd:Nd K
 len:K.length<=32
 ok:∀x∈K,ZT x
def QM.nil:QM []:=⟨XR,λx h=>(by cases h),by simp,λx h=>(by cases h)⟩
variable{X:List zF}
def QM.all(h:QM B)(b:∀x∈X,ZT x)(c:(wS B X).length<=32):QM (wS B X):=
 ⟨Y5 h.Tj,zPb h.nd,c,λx a=>by
  rcases zQR a with a|a
  ·exact h.ok x a
  ·exact b x a⟩
def mr:Nat->List Int->List zF->Nat->List zF×Nat
 |0,_,K,t=>(K,t)|f+1,b,K,t=>match qS b with
  |none=>(K,t)|some (l,n)=>if(wS K l).length>32 then(K,t)else mr f (b.drop n) (wS K l) (t+n)
def zFV:∀(f g:Nat) {b:List Int} (K:List zF) (t:Nat),EW b->b.length<=f->b.length<=g->mr f b K t=mr g b K t
 |0,0,b,K,t,_,_,_=>rfl|0,g+1,b,K,t,_,h,_=>by have:b=[]:=KQ (by omega);subst this;rfl|f+1,0,b,K,t,_,_,h=>by have:b=[]:=KQ (by omega);subst this;rfl|f+1,g+1,b,K,t,a,d,e=>by
  unfold mr;cases c:qS b with
  |none=>rfl|some p=>
   obtain⟨l,n⟩:=p;have i:=nQ a c;simp only;split
   ·rfl
   ·exact zFV f g _ _ (a.drop n) (by simp;omega) (by simp;omega)
def oZ(b:List Int)(K:List zF)(t:Nat):List zF×Nat:=mr b.length b K t
def dG(a:EW A)(K:List zF)(t:Nat):oZ A K t=match qS A with
  |none=>(K,t)|some (l,n)=>if(wS K l).length>32 then(K,t)else oZ (A.drop n) (wS K l) (t+n):=by
 have b:oZ A K t=mr (A.length+1) A K t:=zFV _ _ _ _ a (FN _) (by omega);rw[b];unfold mr;cases c:qS A with
 |none=>rfl|some p=>
  obtain⟨l,n⟩:=p;have d:=nQ a c;simp only;split
  ·rfl
  ·exact zFV _ _ _ _ (a.drop n) (by simp) (FN _)
def zRw:∀(f:Nat) {b:List Int} {K:List zF} (t:Nat),EW b->QM K->QM (mr f b K t).1/\t<=(mr f b K t).2/\(mr f b K t).2<=t+b.length
 |0,b,K,t,_,h=>⟨h,by simp[mr],by simp[mr]⟩|f+1,b,K,t,a,h=>by
  unfold mr;cases c:qS b with
  |none=>exact⟨h,by simp,by simp⟩|some p=>
   obtain⟨l,n⟩:=p;have g:=nQ a c;simp only;split
   ·exact⟨h,by simp,by simp⟩
   ·obtain⟨d,i,e⟩:=zRw f (t+n) (a.drop n) (h.all (zIE a c).2.2 (by omega))
    simp only[EM]at e;exact⟨d,by omega,by omega⟩
def Xz(t:Nat)(a:EW A)(h:QM B):QM (oZ A B t).1/\t<=(oZ A B t).2/\(oZ A B t).2<=t+A.length:=zRw _ t a h
def VX(b:List Int):Int:=b.getD 0 0+256*b.getD 1 0+65536*b.getD 2 0+16777216*b.getD 3 0
def yBh{c d:Int}(f:0<=M/\M<=255)(g:0<=y/\y<=255)(h:0<=c/\c<=255)(i:0<=d/\d<=255):GR .i64 (GR .i64 (GR .i64 (wrap .i64 M) (cB .i64 (wrap .i64 y) 8)) (cB .i64 (wrap .i64 c) 16)) (cB .i64 (wrap .i64 d) 24)=M+256*y+65536*c+16777216*d:=by obtain⟨M,f,rfl⟩:=pD f;obtain⟨y,g,rfl⟩:=pD g;obtain⟨c,h,rfl⟩:=pD h;obtain⟨d,i,rfl⟩:=pD i;have e8:(8:Int)=((8:Nat):Int):=rfl;have a:(16:Int)=((16:Nat):Int):=rfl;have b:(24:Int)=((24:Nat):Int):=rfl;have j:2^8=256:=rfl;have e:2^16=65536:=rfl;have k:2^24=16777216:=rfl;rw[xN (by omega),xN (by omega),xN (by omega),xN (by omega),e8,a,b,Wx (by omega) (by omega),Wx (by omega) (by omega),Wx (by omega) (by omega)];rw[Nq (by omega) (by omega),zTA (by omega),Nq (by omega) (by omega),zTA (by omega),Nq (by omega) (by omega),zTA (by omega),j,e,k];omega
def pB(b:List Int):Option (Int×List zF×Nat):=
 if b.getD 4 0≠0\/VX b<1\/VX b>2147483648 then none else some (VX b,oZ (b.drop 5) [] 5)
def Y7(c:List Int):tZ->Option (wZ tZ tZ):=
 (λ(a:tZ)=>bnd (Go.Proofs.YtjconpohbhlcmaaGreatDoor.sub c a.tail (c.length:Int)) λe=>bnd (mX e) λb=>bif !b.2.2 then some (.done a)else bnd (vV a.all b.1) λd=>bif decide ((((d.getD []).length:Nat):Int)>32)then some (.done a)else some (.next (⟨a.generation,d,wrap .i64 (a.tail+b.2.1),a.clean⟩:tZ)))
def zQU{t:Nat}(h:t<=A.length):Go.Proofs.YtjconpohbhlcmaaGreatDoor.sub A (t:Int) (A.length:Int)=some (A.drop t):=by rw[dF h (FN _),IU (by simp)]
def zNF{b:List Int}(q:EW b)(u:b.length<=16384)(g:Int):∀(f t:Nat) (m:lX),(b.drop t).length<=f->t<=b.length->WC m->
  ∃h,zZ (Y7 b) (⟨g,some m,(t:Int),false⟩:tZ)=some (⟨g,some h,((oZ (b.drop t) (toL m) t).2:Int),false⟩:tZ)/\WC h/\toL h=(oZ (b.drop t) (toL m) t).1
 |f,t,m,k,v,i=>by
  have d:=q.drop t;rw[dG d]
  have a:Y7 b (⟨g,some m,(t:Int),false⟩:tZ)=some (match qS (b.drop t)with
    |none=>.done (⟨g,some m,(t:Int),false⟩:tZ)|some (l,n)=>if(wS (toL m) l).length>32 then .done (⟨g,some m,(t:Int),false⟩:tZ)else .next (⟨g,some (ZR m l),((t+n:Nat):Int),false⟩:tZ)):=by
   unfold Y7;simp only;rw[zQU v,AA,zYN d (by simp;omega),AA];cases e:qS (b.drop t)with
   |none=>rfl|some p=>
    obtain⟨l,n⟩:=p;have o:=nQ d e;have w:=zIE d e;simp only[EM]at o;simp only[zKM,EG,BB];rw[zPX m l (by omega) (λx y=>by have:=(w.2.2 x y).len;omega),AA]
    have j:(((some (ZR m l):Option lX).getD []).length:Int)=((wS (toL m) l).length:Int):=by show((ZR m l).length:Int)=_;rw[zQH i]
    rw[j];by_cases c:(wS (toL m) l).length>32
    ·rw[yT (by simp;omega),AQ c]
    ·rw[yI (by simp;omega),AP c,yF (by omega) (by omega)]
     rfl
  cases e:qS (b.drop t)with
  |none=>
   rw[e]at a;exact⟨m,yV a,i,O⟩
  |some p=>
   obtain⟨l,n⟩:=p;have o:=nQ d e;simp only[EM]at o k;rw[e]at a;simp only at a⊢;split
   ·rename_i c
    rw[AQ c]at a;exact⟨m,yV a,i,O⟩
   ·rename_i c
    rw[AP c]at a
    match f,k with
    |0,k=>omega|f+1,k=>
     obtain⟨h,r,z,s⟩:=zNF q u g f (t+n) (ZR m l) (by simp;omega) (by omega) (Ti i);rw[Y6 i]at r s;refine⟨h,?_,z,?_⟩
     ·rw[IV]
      exact xV a r
     ·rw[IV]
      exact s
def zRf(c:EW A)(j:64<=A.length)(k:A.length<=16384):(pB A=none/\oT A=some (⟨0,none,0,false⟩,false))\/∃m,pB A=some (VX A,oZ (A.drop 5) [] 5)/\oT A=some (⟨VX A,some m,((oZ (A.drop 5) [] 5).2:Int),sG (A.drop (oZ (A.drop 5) [] 5).2)⟩,true)/\WC m/\toL m=(oZ (A.drop 5) [] 5).1:=by
 have l:=yBh (c.get 0) (c.get 1) (c.get 2) (c.get 3);have e:∀i:Nat,i<64->CO A (i:Int)=some (A.getD i 0):=λi u=>gI (by omega)
 have n:CO A 0=some (A.getD 0 0):=e 0 (by omega);have o:CO A 1=some (A.getD 1 0):=e 1 (by omega);have p:CO A 2=some (A.getD 2 0):=e 2 (by omega);have q:CO A 3=some (A.getD 3 0):=e 3 (by omega);have e4:CO A 4=some (A.getD 4 0):=e 4 (by omega);have d:GR .i64 (GR .i64 (GR .i64 (wrap .i64 (A.getD 0 0)) (cB .i64 (wrap .i64 (A.getD 1 0)) 8)) (cB .i64 (wrap .i64 (A.getD 2 0)) 16)) (cB .i64 (wrap .i64 (A.getD 3 0)) 24)=VX A:=l;unfold oT pB;rw[n,AA,o,AA,p,AA,q,AA,e4,AA,d];by_cases f:A.getD 4 0≠0
 ·left
  rw[AQ (.inl f),yT (by simpa using f),AA];exact⟨O,O⟩
 ·rw[yI (by simpa using f)]
  by_cases a:VX A<1
  ·left
   rw[AQ (.inr (.inl a)),yT (by simpa using a),AA];exact⟨O,O⟩
  ·rw[yI (by simpa using a),AA]
   by_cases b:VX A>2147483648
   ·left
    rw[AQ (.inr (.inr b)),yT (by simpa using b)];exact⟨O,O⟩
   ·right
    rw[AP (by simp only[MK];exact⟨f,a,b⟩),yI (by simpa using b)];obtain⟨r,g,s,h⟩:=zNF c k (VX A) (A.drop 5).length 5 [] (FN _) (by omega) (by simp[WC,nW]);have e5:toL []=[]:=by simp[toL,aP,nW]
    rw[e5]at g h;refine⟨r,O,?_,s,h⟩;have t:=(Xz 5 (c.drop 5) QM.nil).2.2;simp only[EM]at t;unfold Y7 at g;refine yL g ?_;simp only;rw[zQU (by omega),AA,zRM (by simp;omega),AA]
structure OS where
 act:Int
 gen:Int
 K:List zF
 tail:Int
 clean:Bool
def pick(o:OS)(i:Int)(b:List Int):OS:=match pB b with
 |none=>o|some (g,K,t)=>if g>o.gen then⟨i,g,K,(t:Int),sG (b.drop t)⟩else o
def xZ(d:zB)(k:Nat):List Int:=(d.bytes.drop (k*d.size.toNat)).take d.size.toNat
def os0:OS:=⟨-1,0,[],0,false⟩
def DU(d:zB)(f:Nat):OS:=pick (pick os0 0 (xZ d f)) 1 (xZ d (f+1))
structure ng(s:zE)(f:Nat)(o:OS):Prop where
 d:s.d=true
 first:s.first=(f:Int)
 act:s.active=o.act
 gen:s.generation=o.gen
 all:∃m,s.all=some m/\WC m/\toL m=o.K
 tail:s.tail=o.tail
 clean:s.clean=o.clean
 ended:s.ended=false
variable{C:zB}
def oF(h:JD C){k:Nat}(a:k<C.BO.length):(xZ C k).length=C.size.toNat:=by have:=uE h a;simp only[xZ,DV,EM];omega
def mU(h:JD C)(k:Nat):EW (xZ C k):=(h.EW.drop _).take _
def zLK(a:JD C)(b:C.down=false)(c:h<C.BO.length):V3 C ((h*C.size.toNat:Nat):Int) C.size=(xZ C h,0):=by have d:=uE a c;have e:=a.size;unfold V3;rw[AP (by simp[b]),AQ ⟨by omega,by omega,by omega,by omega⟩];rfl
def Yb(first:Int):zE×zB×Int->Option (wZ (zE×zB×Int) ((zB×(Option zE)×Int)⊕(zE×zB))):=
 (λ(a:zE×zB×Int)=>bif decide (a.2.2<2)then bnd (xE a.2.1) λe=>bnd (xE a.2.1) λf=>bnd (sT a.2.1 (wrap .i64 ((wrap .i64 (first+a.2.2))*e)) f) λb=>bif(b.2.2 !=0)then some (.done (.inl (b.1,none,b.2.2)))else(bnd (oT b.2.1) λc=>bnd (bif c.2 then some (decide (c.1.generation>a.1.generation))else some false:Option Bool) λg=>bif g then some (.next ((⟨a.1.d,a.1.first,a.2.2,c.1.generation,c.1.all,c.1.tail,c.1.clean,a.1.ended⟩:zE),b.1,wrap .i64 (a.2.2+1)))else some (.next (a.1,b.1,wrap .i64 (a.2.2+1))))else some (.done (.inr (a.1,a.2.1))))
variable{Q:OS}{T:zE}
def zNV(a:JD C)(r:C.down=false)(hz:1024<=C.size){i:Nat}(w:i<2)(j:h+i<C.BO.length)(c:ng T h Q):∃q,Yb (h:Int) (T,C,(i:Int))=some (.next (q,C,((i+1:Nat):Int)))/\ng q h (pick Q (i:Int) (xZ C (h+i))):=by
 have y:=a.BO;have s:=a.size;have k:=uE a j;have A:=a.bound;obtain⟨z,e⟩:∃z:Nat,C.size=(z:Int):=⟨C.size.toNat,by omega⟩;have f:C.size.toNat=z:=by rw[e];rfl
 rw[f]at k
 have b:wrap .i64 (wrap .i64 ((h:Int)+(i:Int))*C.size)=(((h+i)*C.size.toNat:Nat):Int):=by
  rw[yF (x:=(h:Int)+(i:Int)) (by omega) (by omega),f,e];have:((h:Int)+(i:Int))*(z:Int)=(((h+i)*z:Nat):Int):=by simp[ZB,FU]
  rw[this,xN (by omega)]
 have l:=zLK a r j;have t:(xZ C (h+i)).length=C.size.toNat:=oF a j;have n:=zRf (mU a (h+i)) (by omega) (by omega);unfold Yb;simp only;rw[yT (by simp;omega)];unfold xE;rw[AA,AA,zUa a _ _ (by rw[b];omega),AA,b,l];simp only;rw[yI (by decide)];rcases n with⟨o,p⟩|⟨m,o,p,u,v⟩
 ·rw[p,AA]
  simp only;rw[yI O,AA,BB,yF (by omega) (by omega)];refine⟨T,O,?_⟩;unfold pick;rw[o];exact c
 ·rw[p,AA]
  simp only;rw[yT O,AA,yF (by omega) (by omega)];unfold pick;rw[o];simp only;by_cases g:VX (xZ C (h+i))>Q.gen
  ·rw[yT (by rw[c.gen];simpa using g),AQ g]
   exact⟨_,O,⟨c.d,c.first,O,O,⟨m,O,u,v⟩,O,O,c.ended⟩⟩
  ·rw[yI (by rw[c.gen];simpa using g),AP g]
   exact⟨T,O,c⟩
def zZu(a:JD C)(d:C.down=false)(hz:1024<=C.size)(e:h+1<C.BO.length):∃s,vT C (h:Int)=some (C,some s,0)/\ng s h (DU C h):=by
 have p:=a.BO;unfold vT;rw[yI (by simp<;>omega)];unfold pK;rw[AA,AA,yF (by omega) (by omega),yI (by simp<;>omega)];unfold xE;rw[AA,yI (by simp<;>omega)];have f:toL []=[]:=by simp[toL,aP,nW]
 have g:ng (⟨true,(h:Int),(-1),0,(some []),0,false,false⟩:zE) h os0:=⟨O,O,O,O,⟨[],O,by simp[WC,nW],f⟩,O,O,O⟩;obtain⟨q,j,k⟩:=zNV a d hz (i:=0) (by omega) (by omega) g;obtain⟨b,l,m⟩:=zNV a d hz (i:=1) (by omega) e k
 have n:Yb (h:Int) (b,C,((2:Nat):Int))=some (.done (.inr (b,C))):=by unfold Yb;simp only;rw[yI (by simp)]
 have c:=xV j (xV l (yV n));unfold Yb xE at c;refine⟨b,?_,m⟩;have o:((0:Nat):Int)=0:=rfl;rw[o]at c;exact yL c O
def zTD(b:EW A)(h:QM Q.K):QM (pick Q M A).K:=by
 unfold pick;cases a:pB A with
 |none=>exact h|some p=>
  obtain⟨g,K,t⟩:=p;simp only;split
  ·unfold pB at a
   split at a
   ·cases a
   ·injection a with a
    injection a with _ a;have:=(Xz 5 (b.drop 5) QM.nil).1;rw[a]at this;exact this
  ·exact h
def zQb(h:JD C)(f:Nat):QM (DU C f).K:=zTD (mU h _) (zTD (mU h _) QM.nil)
def ni(a:List Int):List zF->Int
 |[]=>0|x::r=>if x.Value.length>28\/(x.Delete=true/\x.Value.length>0)then 1 else if x.Key∈a then 7 else ni (x.Key::a) r
def fM(l:List zF):Int:=if l.length>32 then 3 else ni [] l
def zPP:∀(l:List zF) (a:List Int),ni a l=0\/ni a l=1\/ni a l=7
 |[],_=>.inl O|x::r,a=>by
  unfold ni;split
  ·exact .inr (.inl O)
  ·split
   ·exact .inr (.inr O)
   ·exact zPP r _
def zPL(l:List zF):fM l=0\/fM l=1\/fM l=7\/fM l=3:=by
 unfold fM;split
 ·simp
 ·rcases zPP l []with h|h|h<;>simp[h]
def zUw:∀{l:List zF} {a:List Int},ni a l=0->∀x∈l,x.Value.length<=28/\(x.Delete=true->x.Value=[])
 |[],_,_,x,b=>by cases b|y::r,a,h,x,b=>by
  unfold ni at h;split at h
  ·cases h
  ·rename_i c
   split at h
   ·cases h
   ·rcases EC.1 b with rfl|b
    ·refine⟨by omega,λd=>KQ ?_⟩
     simp only[d,true_and]at c;omega
    ·exact zUw h x b
def Y8(h:fM B=0):B.length<=32/\∀x∈B,x.Value.length<=28/\(x.Delete=true->x.Value=[]):=by
 unfold fM at h;split at h
 ·cases h
 ·exact⟨by omega,zUw h⟩
def Yc(c:List zF):Int×(List (Int×Bool))->Option (wZ (Int×(List (Int×Bool))) (Int⊕(List (Int×Bool)))):=
 (λ(a:Int×(List (Int×Bool)))=>bif decide (a.1<(c.length:Int))then bnd (CO c a.1) λb=>bnd (bif decide ((b.Value.length:Int)>28)then some true else bif b.Delete then some (decide ((b.Value.length:Int)>0))else some false:Option Bool) λd=>bif d then some (.done (.inl 1))else(bif(tO (yW .u8).eq a.2 b.Key).getD false then some (.done (.inl 7))else some (.next (wrap .i64 (a.1+1),iH (yW .u8).eq a.2 b.Key true)))else some (.done (.inr a.2)))
def zXZ(e:Int)(m:List (Int×Bool)):Int⊕(List (Int×Bool)):=if e=0 then .inr m else .inl e
def zRK{l:List zF}(o:l.length<=1000000):∀(k i:Nat) (m:List (Int×Bool)) (a:List Int),i+k=l.length->(∀q,(tO (yW .u8).eq m q).getD false=decide (q∈a))->
  ∃e,zZ (Yc l) ((i:Int),m)=some (zXZ (ni a (l.drop i)) e)
 |0,i,m,a,h,_=>by refine⟨m,yV ?_⟩;unfold Yc;simp only;rw[yI (by simp;omega),MN (by omega)];rfl|k+1,i,m,a,h,n=>by
  have f:i<l.length:=by omega
  have p:l.drop i=l[i]::l.drop (i+1):=(MO (h:=f)).symm;rw[p]
  have b:Yc l ((i:Int),m)=some (if l[i].Value.length>28\/(l[i].Delete=true/\l[i].Value.length>0)then .done (.inl 1)else if l[i].Key∈a then .done (.inl 7)else .next (((i+1:Nat):Int),iH (yW .u8).eq m l[i].Key true)):=by
   unfold Yc;simp only;rw[yT (by simp;omega),yN f,AA]
   have r:(bif decide ((l[i].Value.length:Int)>28)then some true else bif l[i].Delete then some (decide ((l[i].Value.length:Int)>0))else some false:Option Bool)=some (decide (l[i].Value.length>28\/(l[i].Delete=true/\l[i].Value.length>0))):=by
    by_cases c:l[i].Value.length>28
    ·rw[yT (by simp;omega),BK (.inl c)]
    ·rw[yI (by simp;omega)]
     cases s:l[i].Delete
     ·rw[BB]
      congr 1;symm;simp[c]
     ·rw[BD]
      congr 1;rw[QB];simp[c]
   rw[r,AA,n];by_cases c:l[i].Value.length>28\/(l[i].Delete=true/\l[i].Value.length>0)
   ·rw[BK c,BD,AQ c]
   ·rw[BV c,BB,AP c]
    by_cases d:l[i].Key∈a
    ·rw[BK d,BD,AQ d]
    ·rw[BV d,BB,AP d,zV f (by omega)]
  unfold ni;by_cases c:l[i].Value.length>28\/(l[i].Delete=true/\l[i].Value.length>0)
  ·rw[AQ c]at b
   rw[AQ c];exact⟨m,yV b⟩
  ·rw[AP c]at b
   rw[AP c];by_cases d:l[i].Key∈a
   ·rw[AQ d]at b
    rw[AQ d];exact⟨m,yV b⟩
   ·rw[AP d]at b
    rw[AP d]
    obtain⟨e,g⟩:=zRK o k (i+1) (iH (yW .u8).eq m l[i].Key true) (l[i].Key::a) (by omega) λq=>by
     rw[zID aA];by_cases j:q=l[i].Key
     ·simp[j]
     ·rw[AP j,n]
      simp[j]
    exact⟨e,xV b g⟩
def zYV(b:B.length<=1000000):iA B=some (fM B):=by
 unfold iA fM;by_cases h:B.length>32
 ·rw[yT (by simp;omega),AQ h]
 ·rw[yI (by simp;omega),AP h]
  obtain⟨d,a⟩:=zRK b B.length 0 [] [] (by omega) (λq=>by simp[tO]);unfold Yc at a;refine yL a ?_;rw[NR];unfold zXZ;split
  ·rename_i c
   rw[c];rfl
  ·rfl
def VY(g:Int):List Int:=[wrap .u8 g,wrap .u8 (sI .i64 g 8),wrap .u8 (sI .i64 g 16),wrap .u8 (sI .i64 g 24)]
def qR(r:zB×Int)(f:zB->zB×Int):zB×Int:=if r.2=0 then f r.1 else r
def vS(o:OS):Nat:=if o.act=0 then 1 else 0
def lB(o:OS)(d:zB)(f:Nat)(next:List zF):zB×Int:=
 let k:=f+vS o
 let a:Int:=((k*d.size.toNat:Nat):Int)
 qR (qR (qR (if sG (xZ d k)then(d,0)else tJ d (k:Int)) λc=>yO c a (VY (o.gen+1))) λb=>if next=[]then(b,0)else yO b (a+5) (wR next)) λe=>yO e (a+4) [0]
def Tm(o:OS)(next:List zF):OS:=⟨(vS o:Int),o.gen+1,next,5+(if next=[]then 0 else((wR next).length:Int)),true⟩
def WE(o a:OS)(r:zB×Int):Option OS×zB×Int:=if r.2=0 then(some a,r.1,0)else if r.2=10 then(none,r.1,10)else(some o,r.1,r.2)
def ZK(o:OS)(d:zB)(f:Nat)(l:List zF):Option OS×zB×Int:=
 if d.down then(none,d,10)else if fM l≠0 then(some o,d,fM l)else if l=[]then(some o,d,0)else if(wS o.K l).length>32 then(some o,d,3)else
  if 0<=o.act/\o.clean=true/\((wR l).length:Int)<=d.size-o.tail then WE o ⟨o.act,o.gen,wS o.K l,o.tail+(wR l).length,o.clean⟩ (yO d (((f+o.act.toNat)*d.size.toNat:Nat)+o.tail) (wR l))
  else if o.gen=2147483648 then(some o,d,3)else WE o (Tm o (wS o.K l)) (lB o d f (wS o.K l))
def Yd:zE:=⟨false,0,0,0,none,0,false,true⟩
def yCa(a:zE)(f:Nat)(o:Option OS):Prop:=match o with
 |none=>a=Yd|some o=>ng a f o
structure Ye(o:OS):Prop where
 K:QM o.K
 act:-1<=o.act/\o.act<=1
 tail:0<=o.tail/\o.tail<=16384
 gen:0<=o.gen/\o.gen<=2147483648
def iD(c:B.length<=32)(h:∀x∈B,ZT x):EW (wR B):=by
 unfold wR;refine EW.app (EW.cons ?_ λy hy=>?_) (EW.cons (by decide) EW.nil)
 ·rw[Nj (by omega) (by omega)];omega
 ·obtain⟨x,b,hy⟩:=List.mem_flatMap.1 hy
  have a:=h x b;unfold dZ at hy;split at hy
  ·simp only[EC,RZ,or_false]at hy
   rcases hy with rfl|rfl
   ·exact a.key
   ·decide
  ·rcases EC.1 hy with rfl|hy
   ·exact a.key
   ·rcases EC.1 hy with rfl|hy
    ·have:=a.len
     rw[Nj (by omega) (by omega)];omega
    ·exact a.EW y hy
def Tn(b:B.length<=32)(h:∀x∈B,ZT x):2<=(wR B).length/\(wR B).length<=962:=by
 have key:∀(B:List zF),(∀x∈B,ZT x)->(B.flatMap dZ).length<=B.length*30:=by
  intro B;induction B with
  |nil=>intro _;simp
  |cons x r a=>
   intro h;have c:=(zQv x).2;have d:=(h x (by simp)).len;have e:=a λy hy=>h y (by simp[hy])
   simp only[OI,ER,EP];omega
 have:=key B h;unfold wR;simp only[ER,EP,KC];omega
def Yf(g:Int):EW (VY g):=by
 have h:∀x:Int,0<=wrap .u8 x/\wrap .u8 x<=255:=λx=>by rw[N9];omega
 exact EW.cons (h _) (EW.cons (h _) (EW.cons (h _) (EW.cons (h _) EW.nil)))
def Y9{r:zB×Int}{g:zB->zB×Int}(a:JD r.1/\r.1.size=C.size/\r.1.BO.length=C.BO.length/\r.1.bytes.length=C.bytes.length/\r.1.DT=C.DT)(b:∀e,JD e->e.size=C.size->e.BO.length=C.BO.length->e.bytes.length=C.bytes.length->e.DT=C.DT->JD (g e).1/\(g e).1.size=C.size/\(g e).1.BO.length=C.BO.length/\(g e).1.bytes.length=C.bytes.length/\(g e).1.DT=C.DT):JD (qR r g).1/\(qR r g).1.size=C.size/\(qR r g).1.BO.length=C.BO.length/\(qR r g).1.bytes.length=C.bytes.length/\(qR r g).1.DT=C.DT:=by
 unfold qR;split
 ·exact b r.1 a.1 a.2.1 a.2.2.1 a.2.2.2.1 a.2.2.2.2
 ·exact a
def zQN(h:JD C)(b:EW A)(a:Int):JD (yO C a A).1/\(yO C a A).1.size=C.size/\(yO C a A).1.BO.length=C.BO.length/\(yO C a A).1.bytes.length=C.bytes.length/\(yO C a A).1.DT=C.DT:=by obtain⟨c,d,e,f,g⟩:=zQe h b a;exact⟨c,d,by rw[e],f,g⟩
variable{j:zB}
def Z4(h:JD j)(b:j.size=C.size)(c:j.BO.length=C.BO.length)(d:j.bytes.length=C.bytes.length)(e:j.DT=C.DT)(f:EW A)(a:Int):JD (yO j a A).1/\(yO j a A).1.size=C.size/\(yO j a A).1.BO.length=C.BO.length/\(yO j a A).1.bytes.length=C.bytes.length/\(yO j a A).1.DT=C.DT:=by obtain⟨g,i,k,l,m⟩:=zQN h f a;exact⟨g,i.trans b,k.trans c,l.trans d,m.trans e⟩
def zRx(h:toL R=B)(b:QM B):∀k v,eB R k=some v->v.length<=28/\EW v:=λk v a=>by rw[<-Tf,h]at a;unfold nS at a;rw[LP]at a;obtain⟨x,c,rfl⟩:=a;have:=b.ok x (WT c);exact⟨this.len,this.EW⟩
def zZk(s:zE)(o:OS)(m:lX)(N:List zF):zE:=⟨s.d,s.first,(vS o:Int),o.gen+1,some m,5+(if N=[]then 0 else((wR N).length:Int)),true,s.ended⟩
def yAC(w:ng T h Q)(X:Ye Q)(Y:Q.gen≠2147483648)(i:JD C)(Z:C.down=false)(hz:1024<=C.size)(hf:h+1<C.BO.length)(hm:WC R)(J:toL R=B)(o:QM B)(hsm:B.length<=eX):rG T (some R) C=some (if(lB Q C h B).2=0 then zZk T Q R B else T,(lB Q C h B).1,(lB Q C h B).2):=by
 have hw:=i.BO;have hsz:=i.size;have hgb:=X.gen;have hb:=i.bound;obtain⟨z,y⟩:∃z:Nat,C.size=(z:Int):=⟨C.size.toNat,by omega⟩;have p:C.size.toNat=z:=by rw[y];rfl
 have L:h+vS Q<C.BO.length:=by unfold vS;split<;>omega
 have M:=uE i L;rw[p]at M
 have A:(bif(T.active==0)then some 1 else some 0:Option Int)=some ((vS Q:Nat):Int):=by
  rw[w.act];unfold vS;by_cases K:Q.act=0
  ·rw[yT (by simpa using K),AQ K];rfl
  ·rw[yI (by simpa using K),AP K];rfl
 have U:vZ T.d=some true:=by rw[w.d];rfl
 have Oy:vS Q<=1:=by unfold vS;split<;>omega
 have N:wrap .i64 (T.first+((vS Q:Nat):Int))=((h+vS Q:Nat):Int):=by rw[w.first,yF (by omega) (by omega)];omega
 have D:wrap .i64 (((h+vS Q:Nat):Int)*C.size)=(((h+vS Q)*C.size.toNat:Nat):Int):=by
  rw[p,y];have:(((h+vS Q:Nat):Int)*(z:Int))=(((h+vS Q)*z:Nat):Int):=by simp
  rw[this,xN (by omega)]
 have E:wrap .i64 (T.generation+1)=Q.gen+1:=by rw[w.gen,yF (by omega) (by omega)]
 have hsl:(xZ C (h+vS Q)).length=C.size.toNat:=oF i L;have P:=zRM (b:=xZ C (h+vS Q)) (by omega);have he:=zXh i ((h+vS Q:Nat):Int) (by omega);unfold rG;rw[yI (by rw[w.gen];simpa using Y),A,AA,U,AA];unfold xE;rw[AA,AA,AA,N,D,E,zUa i _ _ (by omega),AA,zLK i Z L];obtain⟨n,r⟩:∃n,(if sG (xZ C (h+vS Q))then(C,0)else tJ C ((h+vS Q:Nat):Int))=n:=⟨_,rfl⟩
 have F:JD n.1/\n.1.size=C.size/\n.1.BO.length=C.BO.length/\n.1.bytes.length=C.bytes.length/\n.1.DT=C.DT:=by
  rw[<-r];split
  ·exact⟨i,O,O,O,O⟩
  ·exact zIJ i _
 refine yL (a:=(n.2,n.1)) ?_ ?_
 ·rw[yT (by rfl),P,AA,AA,<-r]
  cases sG (xZ C (h+vS Q))
  ·simp only[IK,BD,U,AA,he]
   rfl
  ·rfl
 simp only;obtain⟨l,s⟩:∃l,(qR n λd1=>yO d1 (((h+vS Q)*C.size.toNat:Nat):Int) (VY (Q.gen+1)))=l:=⟨_,rfl⟩
 have G:JD l.1/\l.1.size=C.size/\l.1.BO.length=C.BO.length/\l.1.bytes.length=C.bytes.length/\l.1.DT=C.DT:=by rw[<-s];exact Y9 F λe a b c g t=>Z4 a b c g t (Yf _) _
 refine yL (a:=(l.2,l.1)) ?_ ?_
 ·rw[<-s]
  unfold qR;by_cases f:n.2=0
  ·rw[yT (by simpa using f),AQ f,AA]
   have:=U9 F.1 (Yf (Q.gen+1)) (((h+vS Q)*C.size.toNat:Nat):Int) (by omega);unfold VY at this;rw[this,AA];rfl
  ·rw[yI (by simpa using f),AP f]
 simp only;obtain⟨m,q⟩:∃m,(qR l λV=>if B=[]then(V,0)else yO V ((((h+vS Q)*C.size.toNat:Nat):Int)+5) (wR B))=m:=⟨_,rfl⟩
 have Z5:JD m.1/\m.1.size=C.size/\m.1.BO.length=C.BO.length/\m.1.bytes.length=C.bytes.length/\m.1.DT=C.DT:=by
  rw[<-q];refine Y9 G λe a b c g t=>?_
  split
  ·exact⟨a,b,c,g,t⟩
  ·exact Z4 a b c g t (iD o.len o.ok) _
 have H:lB Q C h B=qR m λd3=>yO d3 ((((h+vS Q)*C.size.toNat:Nat):Int)+4) [0]:=by unfold lB;simp only;rw[r,s,q]
 have I:(((some R:Option lX).getD []).length:Int)=(B.length:Int):=by show(R.length:Int)=_;rw[<-J,Xy]
 refine yL (a:=(if l.2=0/\B≠[]then 5+((wR B).length:Int)else 5,m.2,m.1)) ?_ ?_
 ·rw[<-q,I]
  unfold qR;by_cases f:l.2=0
  ·rw[yT (by simpa using f),AA,AQ f]
   dsimp only;by_cases j:B=[]
   ·rw[AQ j,yI (by rw[j];rfl),AP (by rw[j];simp)]
    rw[f]
   ·have W:0<B.length:=OH.2 j
    have hel:=Tn o.len o.ok
    have S:uQ (some R)=some B:=by rw[zUY hm (by have:=Xy R;rw[J]at this;omega) (λk v hv=>by have:=(zRx J o k v hv).1;omega),J]
    rw[AP j,yT (by simp;omega),AQ ⟨f,j⟩,S,AA,zNu (by have:=o.len;omega) (λx hx=>by have:=(o.ok x hx).len;omega),AA,AA,yF (x:=(((h+vS Q)*C.size.toNat:Nat):Int)+5) (by omega) (by rw[p];omega),U9 G.1 (iD o.len o.ok) _ (by omega),AA,yF (by omega) (by omega)]
  ·rw[yI (by simpa using f),AA,BB,AP f,AP (λhh=>f hh.1)]
 simp only;refine yL (a:=((lB Q C h B).2,(lB Q C h B).1)) ?_ ?_
 ·rw[H]
  unfold qR;by_cases f:m.2=0
  ·rw[yT (by simpa using f),AQ f,AA,yF (x:=(((h+vS Q)*C.size.toNat:Nat):Int)+4) (by omega) (by rw[p];omega),U9 Z5.1 (EW.cons (by decide) EW.nil) _ (by omega),AA]
  ·rw[yI (by simpa using f),AP f]
 simp only;by_cases f:(lB Q C h B).2=0
 ·rw[yT (by simpa using f),AQ f]
  have u:l.2=0:=by
   by_cases u:l.2=0
   ·exact u
   ·exfalso
    have e3:m=l:=by rw[<-q];unfold qR;rw[AP u]
    have e4:lB Q C h B=l:=by rw[H,e3];unfold qR;rw[AP u]
    rw[e4]at f;exact u f
  unfold zZk;congr 3;by_cases j:B=[]
  ·simp[j]
  ·rw[AQ ⟨u,j⟩,AP j]
 ·rw[yI (by simpa using f),AP f]
def zQt{b:zE}{c:OS}(r:zB×Int)(d:ng T h Q)(a:ng b h c):yCa (if r.2=0 then b else if r.2=10 then Yd else T) h (WE Q c r).1:=by
 unfold WE;split
 ·exact a
 ·split
  ·rfl
  ·exact d
def zWw(c:ng T h Q)(w:Ye Q)(a:JD C)(hz:1024<=C.size)(U:h+1<C.BO.length)(q:B.length<=1000000)(E:∀x∈B,0<=x.Key/\x.Key<=255/\EW x.Value)(F:(wS Q.K B).length<=32->(wS Q.K B).length<=eX:=by exactλa=>JU a (by decide)):∃P,yK T B C=some (P,(ZK Q C h B).2)/\yCa P h (ZK Q C h B).1:=by
 have hw:=a.BO;have V:=a.size;have hb:=a.bound;have W:=w.tail;have X:=w.act;obtain⟨m,G,i,s⟩:=c.all;have Y:vZ T.d=some true:=by rw[c.d];rfl
 obtain⟨z,t⟩:∃z:Nat,C.size=(z:Int):=⟨C.size.toNat,by omega⟩;have l:C.size.toNat=z:=by rw[t];rfl
 unfold yK ZK;rw[c.ended,BB,Y,AA];unfold mE;rw[AA,AA];cases Z:C.down
 case true=>exact⟨Yd,rfl,rfl⟩
 rw[BB,zYV q,AA,AP (by decide)];by_cases y:fM B≠0
 ·rw[yT (by simpa using y),AA,BD,AQ y]
  exact⟨T,O,c⟩
 have u:fM B=0:=by omega
 rw[yI (by simpa using y),AA,AP y];by_cases f:B=[]
 ·rw[yT (by rw[f];rfl),AQ f,u]
  exact⟨T,O,c⟩
 have R:0<B.length:=OH.2 f;have g:=Y8 u;have H:∀x∈B,ZT x:=λx j=>⟨⟨(E x j).1,(E x j).2.1⟩,(g.2 x j).1,(E x j).2.2,(g.2 x j).2⟩
 rw[yI (by simp;omega),AP f,G,zPX m B q (λx j=>by have:=(g.2 x j).1;omega),AA]
 have I:(((some (ZR m B):Option lX).getD []).length:Int)=((wS Q.K B).length:Int):=by show((ZR m B).length:Int)=_;rw[zQH i,s]
 have n:toL (ZR m B)=wS Q.K B:=by rw[Y6 i,s]
 rw[I];by_cases v:(wS Q.K B).length>32
 ·rw[yT (by simp;omega),AQ v]
  exact⟨T,O,c⟩
 rw[yI (by simp;omega),AP v];have S:QM (wS Q.K B):=w.K.all H (by omega);have hel:=Tn g.1 H;have J:=iD g.1 H;rw[zNu (by omega) (λx j=>by have:=(g.2 x j).1;omega),AA]
 have o:(bif decide (T.active>=0)then bif T.clean then bnd (some true) λb2=>bnd (xE C) λr5=>some (decide (((wR B).length:Int)<=(wrap .i64 (r5-T.tail))))else(some false)else some false:Option Bool)=some (decide (0<=Q.act/\Q.clean=true/\((wR B).length:Int)<=C.size-Q.tail)):=by
  rw[c.act,c.clean,c.tail,AA];unfold xE;rw[AA,yF (by omega) (by omega)];by_cases A:0<=Q.act
  ·rw[yT (by simpa using A)]
   cases hcl:Q.clean
   ·rw[BB]
    congr 1;simp
   ·rw[BD]
    congr 1;rw[QB];simp[A]
  ·rw[yI (by simpa using A)]
   congr 1;simp[A]
 rw[o,AA];by_cases k:0<=Q.act/\Q.clean=true/\((wR B).length:Int)<=C.size-Q.tail
 ·rw[BK k,BD,AQ k,AA]
  unfold xE;rw[AA,c.first,c.act,c.tail];have L:h+Q.act.toNat<C.BO.length:=by omega
  have M:=uE a L;rw[l]at M;have e1:wrap .i64 ((h:Int)+Q.act)=((h+Q.act.toNat:Nat):Int):=by rw[yF (by omega) (by omega)];omega
  have e2:wrap .i64 (((h+Q.act.toNat:Nat):Int)*C.size)=(((h+Q.act.toNat)*C.size.toNat:Nat):Int):=by
   rw[l,t];have:(((h+Q.act.toNat:Nat):Int)*(z:Int))=(((h+Q.act.toNat)*z:Nat):Int):=by simp
   rw[this,xN (by omega)]
  rw[e1,e2,yF (x:=(((h+Q.act.toNat)*C.size.toNat:Nat):Int)+Q.tail) (by omega) (by rw[l];omega),U9 a J _ (by omega),AA];obtain⟨r,N⟩:∃r,yO C ((((h+Q.act.toNat)*C.size.toNat:Nat):Int)+Q.tail) (wR B)=r:=⟨_,rfl⟩;rw[N];have p:ng (⟨T.d,(h:Int),Q.act,T.generation,some (ZR m B),Q.tail+((wR B).length:Int),T.clean,T.ended⟩:zE) h ⟨Q.act,Q.gen,wS Q.K B,Q.tail+((wR B).length:Int),Q.clean⟩:=⟨c.d,O,O,c.gen,⟨_,O,Ti i,n⟩,O,c.clean,c.ended⟩;refine⟨_,?_,zQt r c p⟩;unfold WE;by_cases e:r.2=0
  ·rw[yT (by simpa using e),yI (by rw[e];rfl),AQ e,AQ e,yF (by omega) (by omega)]
   rw[e,c.ended]
  ·rw[yI (by simpa using e),AP e,AP e]
   by_cases b:r.2=10
   ·rw[yT (by simpa using b),AQ b,AQ b,b]
    rfl
   ·rw[yI (by simpa using b),AP b,AP b]
 ·rw[BV k,BB,AP k]
  by_cases D:Q.gen=2147483648
  ·rw[AQ D]
   unfold rG;rw[yT (by rw[c.gen];simpa using D),AA];simp only;rw[yI (by decide)];exact⟨T,O,c⟩
  ·rw[AP D,yAC c w D a Z hz U (Ti i) n S (F S.len),AA]
   obtain⟨r,N⟩:∃r,lB Q C h (wS Q.K B)=r:=⟨_,rfl⟩;rw[N];have p:ng (zZk T Q (ZR m B) (wS Q.K B)) h (Tm Q (wS Q.K B)):=⟨c.d,c.first,O,O,⟨_,O,Ti i,n⟩,O,O,c.ended⟩;refine⟨_,?_,zQt r c p⟩;unfold WE;simp only;by_cases e:r.2=0
   ·rw[yI (by rw[e];rfl),AQ e,AQ e,AQ e,e]
   ·rw[AP e,AP e,AP e]
    by_cases b:r.2=10
    ·rw[yT (by simpa using b),AQ b,AQ b,b]
     rfl
    ·rw[yI (by simpa using b),AP b,AP b]
def spl(l:List Int)(i:Nat)(w:List Int):List Int:=l.take i++w++l.drop (i+w.length)
variable{H:List Int}
def Pg(a:h+H.length<=A.length):(spl A h H).length=A.length:=by simp only[spl,ER,DV,EM];omega
def kS(a:h+H.length<=A.length)(j:Nat):(spl A h H)[j]?=if j<h then A[j]?else if j<h+H.length then H[j-h]?else A[j]?:=by
 unfold spl;have d:(A.take h).length=h:=by rw[DV];omega
 by_cases b:j<h
 ·rw[AQ b,FH,NT (by omega),LQ,AQ b]
 ·rw[AP b,FH,JM (by omega),d]
  by_cases c:j<h+H.length
  ·rw[AQ c,NT (by omega)]
  ·rw[AP c,JM (by omega),MW]
   congr 1;omega
def zTV(l:List Int)(i:Nat):spl l i []=l:=by simp[spl]
def yAz(a:h<A.length)(x:Int):A.set h x=spl A h [x]:=by
 apply FW;intro j;rw[kS (by simp;omega),KR];by_cases c:h=j
 ·subst c
  rw[AQ O,AQ a,AP (by omega),AQ (by simp)];simp
 ·rw[AP c]
  by_cases b:j<h
  ·rw[AQ b]
  ·rw[AP b,AP (by simp;omega)]
def zRj(x:Int)(a:h+1+H.length<=A.length):spl (A.set h x) (h+1) H=spl A h (x::H):=by
 apply FW;intro j;rw[kS (by simp;omega),kS (by simp;omega),KR];simp only[EP];by_cases b:j<h
 ·rw[AQ (by omega),AP (by omega),AQ b]
 ·rw[AP b]
  by_cases c:h=j
  ·subst c
   rw[AQ (by omega),AQ O,AQ (by omega),AQ (by omega),KI];rfl
  ·rw[AP (by omega)]
   by_cases d:j<h+1+H.length
   ·rw[AQ d,AQ (by omega),show j-h=(j-(h+1))+1 by omega,TU]
   ·rw[AP d,AP c,AP (by omega)]
def Z7(l:List Int)(i n:Nat):Prop:=∀j,i<=j->j<i+n->l[j]?=some 255
def zMa:∀(b:List Int) (d:zB) (i:Nat),JD d->d.down=false->EW b->i+b.length<=d.bytes.length->Z7 d.bytes i b.length->
  ((nX d i b).2=0/\(nX d i b).1.bytes=spl d.bytes i b/\(nX d i b).1.down=false)\/
  ((nX d i b).2=10/\(nX d i b).1.down=true/\∃k,k<b.length/\(nX d i b).1.bytes=spl d.bytes i (b.take k++[GR .u8 (b.getD k 0) d.DT]))
 |[],d,i,h,c,_,_,_=>.inl ⟨O,(zTV _ _).symm,c⟩|x::b,d,i,h,c,r,t,l=>by
  have m:=r x (by simp);simp only[EP]at t l
  have n:d.bytes.getD i 0=255:=by rw[IC,l i (FN _) (by omega)];rfl
  unfold nX;rw[n];by_cases e:(xR d).2=true
  ·rw[AQ e]
   right;refine⟨O,?_,0,by simp,?_⟩
   ·show(xR d).1.down=true
    rw[U7 c,e]
   ·show(xR d).1.bytes.set i _=_
    rw[wW,zYg (Xf m h.DT),yAz (by omega)];rfl
  ·rw[AP e,zYg m]
   have o:(xR d).2=false:=by simpa using e
   have a:(VT (xR d).1 i x).bytes=d.bytes.set i x:=by show(xR d).1.bytes.set i x=_;rw[wW]
   have p:(VT (xR d).1 i x).DT=d.DT:=oH d
   have s:=zMa b (VT (xR d).1 i x) (i+1) (Xh (bM h) i m) (by show(xR d).1.down=false;rw[U7 c,o]) (λy hy=>r y (by simp[hy])) (by rw[a];simp;omega) (λj f g=>by rw[a,KR,AP (by omega)];exact l j (by omega) (by omega))
   rw[a,p]at s;rcases s with⟨f,g,q⟩|⟨f,g,k,u,q⟩
   ·exact .inl ⟨f,by rw[g,zRj x (by omega)],q⟩
   ·refine .inr ⟨f,g,k+1,by simp;omega,?_⟩
    rw[q,zRj x (by simp;omega)];rfl
def zMs{i:Nat}(h:JD C)(a:C.down=false)(b:EW A)(c:i+A.length<=C.bytes.length)(d:Z7 C.bytes i A.length):((yO C (i:Int) A).2=0/\(yO C (i:Int) A).1.bytes=spl C.bytes i A/\(yO C (i:Int) A).1.down=false)\/((yO C (i:Int) A).2=10/\(yO C (i:Int) A).1.down=true/\∃k,k<A.length/\(yO C (i:Int) A).1.bytes=spl C.bytes i (A.take k++[GR .u8 (A.getD k 0) C.DT])):=by unfold yO;rw[AP (by simp[a]),AQ ⟨by omega,by omega,by omega,by omega⟩];exact zMa A C i h a b c d
def zYm(i:EW A)(a:mg A=some (q,h))(d:List Int):mg (A.take h++d)=some (q,h):=by
 match A,a with
 |k::c::r,a=>
  have l:=i c (by simp);rw[eE]at a;split at a
  ·rename_i b
   injection a with a;injection a with f g;subst f;subst g;show mg (k::c::([]++d))=_;rw[eE,AQ b]
  ·rename_i b
   split at a
   ·cases a
   ·rename_i m
    injection a with a;injection a with f g;subst f;subst g
    have e:(k::c::r).take (2+c.toNat)++d=k::c::(r.take c.toNat++d):=by rw[KU];rfl
    have j:(r.take c.toNat).length=c.toNat:=by rw[DV];omega
    rw[e,eE,AP b,AP (by rw[ER,j];omega),RG (by omega),IU (by omega)]
def zGv(n m:Nat):A.take (n+m)=A.take n++(A.drop n).take m:=by rw[List.take_add]
def zNC:∀(c:Nat) {b:List Int} {l:List zF} {n:Nat},EW b->jB c b=some (l,n)->∀q,jB c (b.take n++q)=some (l,n)
 |0,b,l,n,_,h,q=>by injection h with h;injection h with a d;subst a;subst d;rfl
 |c+1,b,l,n,f,h,q=>by
  unfold jB at h;split at h
  ·cases h
  ·rename_i x k g
   split at h
   ·cases h
   ·rename_i r m i
    injection h with h;injection h with a d;subst a;subst d;have j:=Xu f g;have o:=zYm f g ((b.drop k).take m++q);have p:=zNC c (f.drop k) i q;unfold jB;rw[zGv,FH,o]
    have e:(b.take k++((b.drop k).take m++q)).drop k=(b.drop k).take m++q:=by rw[RH (by rw[DV];omega),MN (by rw[DV];omega)];rfl
    simp only;rw[e,p]
def zLS(g:EW A)(a:qS A=some (B,h))(q:List Int):qS (A.take h++q)=some (B,h):=by
 match A,a with
 |c::r,a=>
  have d:EW r:=λy hy=>g y (by simp[hy])
  rw[nB]at a;split at a
  ·cases a
  ·rename_i i
   split at a
   ·cases a
   ·rename_i o m j
    split at a
    ·rename_i f
     injection a with a;injection a with k l;subst k;subst l;have b:=(FT.1 f).1
     have e:(c::r).take (m+2)++q=c::(r.take m++((r.drop m).take 1++q)):=by show c::(r.take (m+1)++q)=_;rw[zGv,FH]
     rw[e,nB,AP i,zNC _ d j];simp only;have n:(r.take m).length=m:=by rw[DV];omega
     rw[AQ];rw[JM (by omega),n,KI]
     have:(r.drop m).take 1=[r[m]]:=by rw[<-MO (h:=b)];rfl
     rw[this];rw[CJ b]at f;exact f
    ·cases a
def zYI(h:ZT q)(a:List Int):mg (dZ q++a)=some (q,(dZ q).length):=by
 obtain⟨k,v,b⟩:=q;have c:=h.len;simp only at c;unfold dZ;cases b
 ·have d:wrap .u8 (v.length:Int)=(v.length:Int):=Nj (by omega) (by omega)
  rw[AP (by simp)];show mg (k::wrap .u8 (v.length:Int)::(v++a))=_;rw[eE,d,AP (by omega),AP (by rw[ER];omega)];have e:(v.length:Int).toNat=v.length:=rfl;rw[e,OU];congr 2;simp;omega
 ·have f:v=[]:=h.del O
  subst f;rfl
def zNE:∀{l:List zF},(∀x∈l,ZT x)->∀q,jB l.length (l.flatMap dZ++q)=some (l,(l.flatMap dZ).length)
 |[],_,_=>rfl|x::l,h,q=>by have a:=zYI (h x (by simp)) (l.flatMap dZ++q);have b:=zNE (l:=l) (λy hy=>h y (by simp[hy])) q;show jB (l.length+1) _=_;unfold jB;rw[OI,FH,a];simp only;rw[SH,b];simp
def zGh(c:1<=B.length)(d:B.length<=32)(h:∀x∈B,ZT x)(q:List Int):qS (wR B++q)=some (B,(wR B).length):=by
 have a:wrap .u8 (B.length:Int)=(B.length:Int):=Nj (by omega) (by omega)
 have e:wR B++q=(B.length:Int)::(B.flatMap dZ++(0::q)):=by unfold wR;rw[a];simp
 have b:(B.length:Int).toNat=B.length:=rfl;rw[e,nB,AP (by omega),b,zNE h];simp only;rw[AQ (by rw[JM (FN _),KI];rfl)];unfold wR;simp
def zIQ(j:Nat):qS (List.replicate j 255)=none:=by
 cases j with
 |zero=>rfl|succ j=>
  rw[uz,nB,AQ (.inr (by decide))]
def zQI(b:EW A)(a:qS A=some (B,h)):A[h-1]?=some 0:=by
 have f:=nQ b a
 match A,a with
 |c::r,a=>
  rw[nB]at a;split at a
  ·cases a
  ·split at a
   ·cases a
   ·rename_i g m i
    split at a
    ·rename_i d
     injection a with a;injection a with j e;subst e;exact d
    ·cases a
def zSc(y:1<=B.length)(s:B.length<=32)(a:∀x∈B,ZT x){t:Int}(i:0<=t/\t<=255)(g:h<(wR B).length)(b:h+1<(wR B).length\/t≠0):qS ((wR B).take h++[GR .u8 ((wR B).getD h 0) t]++List.replicate D 255)=none:=by
 have d:=iD s a;have c:=d.get h;have j:=Xf c i;have e:((wR B).take h).length=h:=by rw[DV];omega
 have k:EW ((wR B).take h++[GR .u8 ((wR B).getD h 0) t]++List.replicate D 255):=((d.take h).app (EW.cons j EW.nil)).app (EW.rep (by decide));cases l:qS ((wR B).take h++[GR .u8 ((wR B).getD h 0) t]++List.replicate D 255)with
 |none=>rfl|some p=>
  exfalso
  obtain⟨F,n⟩:=p;have G:=nQ k l;have hz:=zQI k l
  have key:∀w:List Int,((wR B).take h++[GR .u8 ((wR B).getD h 0) t]++List.replicate D 255).take n=(wR B).take n->False:=λw z=>by
   have:=zLS k l ((wR B).drop n);rw[z,RQ]at this;have f:=zGh y s a [];rw[MB,this]at f;injection f with f;injection f with _ f
   have H:n<=h+1:=by
    rcases MG (n-1) (h+1)with m|o
    ·omega
    ·exfalso
     rw[JM (by simp;omega),QU]at hz;split at hz
     ·injection hz with hz
      cases hz
     ·cases hz
   have I:h+1=(wR B).length:=by omega
   rcases b with b|b
   ·omega
   ·have q:n-1=h:=by omega
    rw[q,FH,JM (by omega),e,KI]at hz;injection hz with hz;exact b ((or_zero c i).1 hz).2
  rcases MG (n-1) h with m|o
  ·refine key [] ?_
   rw[FH,RG (by omega),List.take_take,NP (by omega)]
  ·rcases MG h (n-1)with u|A
   ·rw[JM (by simp;omega),QU]at hz
    split at hz
    ·injection hz with hz
     cases hz
    ·cases hz
   ·have q:n-1=h:=by omega
    rw[q,FH,JM (by omega),e,KI]at hz;injection hz with hz;have r:=(or_zero c i).1 hz;refine key [] ?_;have C:n=h+1:=by omega
    have v:(wR B)[h]?=some 0:=by have:=r.1;rw[IC,CJ g]at this;rw[CJ g];exact congrArg some this
    have E:(wR B)[h]=0:=by rw[CJ g]at v;injection v
    rw[C,xA g,E,hz,RG (by simp;omega),IU (by simp;omega)]
def zWt:∀(f:Nat) {b:List Int} (K:List zF) (t:Nat),b.length<=f->EW b->∀q,EW q->oZ (b.take ((oZ b K t).2-t)++q) K t=oZ q (oZ b K t).1 (oZ b K t).2:=by
 intro f;induction f with
 |zero=>
  intro b K t j a q d;have:b=[]:=KQ (by omega);subst this;have e:oZ [] K t=(K,t):=rfl;rw[e];simp
 |succ f c=>
  intro b K t j a q d;rw[dG a];cases i:qS b with
  |none=>simp|some p=>
   obtain⟨l,n⟩:=p;have v:=nQ a i;simp only;split
   ·simp
   ·rename_i g
    have c:=c (wS K l) (t+n) (b:=b.drop n) (by simp;omega) (a.drop n) q d
    have k:t+n<=(oZ (b.drop n) (wS K l) (t+n)).2:=by
     have:∀(f:Nat) (b:List Int) (K:List zF) (t:Nat),t<=(mr f b K t).2:=by
      intro f;induction f with
      |zero=>intro b K t;exact FN _
      |succ f c=>
       intro b K t;unfold mr;cases qS b with
       |none=>exact FN _|some p=>
        obtain⟨l,n⟩:=p;simp only;split
        ·exact FN _
        ·have:=c (b.drop n) (wS K l) (t+n)
         omega
     exact this _ _ _ _
    obtain⟨m,o⟩:∃m,(oZ (b.drop n) (wS K l) (t+n)).2=t+n+m:=⟨(oZ (b.drop n) (wS K l) (t+n)).2-(t+n),by omega⟩;rw[o]at c⊢;have r:t+n+m-t=n+m:=by omega
    have s:t+n+m-(t+n)=m:=by omega
    rw[s]at c;rw[r,zGv,FH];have h:EW (b.take n++((b.drop n).take m++q)):=(a.take n).app (((a.drop n).take m).app d);rw[dG h,zLS a i];simp only;rw[AP g]
    have u:(b.take n++((b.drop n).take m++q)).drop n=(b.drop n).take m++q:=by rw[RH (by rw[DV];omega),MN (by rw[DV];omega)];rfl
    rw[u];exact c
def ZU(b0 b1:List Int):OS:=pick (pick os0 0 b0) 1 b1
def kE(d:zB)(f:Nat):DU d f=ZU (xZ d f) (xZ d (f+1)):=rfl
def gC{t:Nat}(h:pB A=some (M,B,t)):1<=M/\M<=2147483648/\M=VX A/\A.getD 4 0=0/\oZ (A.drop 5) [] 5=(B,t):=by
 unfold pB at h;split at h
 ·cases h
 ·rename_i a
  simp only[MK,Classical.not_not]at a;injection h with h;injection h with b c;exact⟨by omega,by omega,b.symm,by omega,c⟩
def Bz(i:Int)(b:List Int)(g:Int)(K:List zF)(t:Nat):OS:=⟨i,g,K,(t:Int),sG (b.drop t)⟩
def Tq{t:Nat}(a:pB A=some (M,B,t))(b:∀p,pB H=some p->p.1<=M):ZU A H=Bz 0 A M B t:=by
 have f:=(gC a).1
 have e:pick os0 0 A=Bz 0 A M B t:=by unfold pick;rw[a];exact AQ (show M>(0:Int)by omega)
 unfold ZU;rw[e];unfold pick;cases c:pB H with
 |none=>rfl|some p=>
  obtain⟨d,g,h⟩:=p;have:=b _ c;exact AP (show¬d>M by simp only at this;omega)
def Yg{t:Nat}(a:pB H=some (M,B,t))(b:∀p,pB A=some p->p.1<M):ZU A H=Bz 1 H M B t:=by
 have d:=(gC a).1
 have e:(pick os0 0 A).gen<M:=by
  unfold pick;cases c:pB A with
  |none=>show(0:Int)<M;omega|some p=>
   obtain⟨f,g,h⟩:=p;have:=b _ c;simp only at this⊢;split
   ·exact this
   ·show(0:Int)<M;omega
 unfold ZU
 rw[show pick (pick os0 0 A) 1 H=if M>(pick os0 0 A).gen then Bz 1 H M B t else pick os0 0 A by
  conv=>lhs;unfold pick
  rw[a];rfl]
 exact AQ e
def zLL(a:pB A=none)(b:pB H=none):ZU A H=os0:=by unfold ZU pick;rw[a,b]
def cR(b0 b1:List Int):(pB b0=none/\pB b1=none/\ZU b0 b1=os0)\/(∃g K t,pB b0=some (g,K,t)/\(∀p,pB b1=some p->p.1<=g)/\ZU b0 b1=Bz 0 b0 g K t)\/∃g K t,pB b1=some (g,K,t)/\(∀p,pB b0=some p->p.1<g)/\ZU b0 b1=Bz 1 b1 g K t:=by
 cases b:pB b0 with
 |none=>
  cases a:pB b1 with
  |none=>exact .inl ⟨O,O,zLL b a⟩|some p=>
   obtain⟨g,K,t⟩:=p;exact .inr (.inr ⟨g,K,t,O,λp hp=>(by cases hp),Yg a λp hp=>by rw[b]at hp;cases hp⟩)
 |some f=>
  obtain⟨g0,c,d⟩:=f;cases a:pB b1 with
  |none=>exact .inr (.inl ⟨g0,c,d,O,λp hp=>(by cases hp),Tq b λp hp=>by rw[a]at hp;cases hp⟩)|some p=>
   obtain⟨g,K,t⟩:=p;by_cases e:g>g0
   ·refine .inr (.inr ⟨g,K,t,O,λp hp=>?_,Yg a λp hp=>?_⟩)
    ·injection hp with hp;subst hp;exact e
    ·rw[b]at hp;injection hp with hp;subst hp;exact e
   ·refine .inr (.inl ⟨g0,c,d,O,λp hp=>?_,Tq b λp hp=>?_⟩)
    ·injection hp with hp;subst hp;show g<=g0;omega
    ·rw[a]at hp;injection hp with hp;subst hp;show g<=g0;omega
def zKB(a:EW A):5<=(oZ (A.drop 5) [] 5).2/\(oZ (A.drop 5) [] 5).2<=5+(A.drop 5).length:=(Xz 5 (a.drop 5) QM.nil).2
def zZI(c:EW A)(d:EW H)(f:64<=A.length/\A.length<=1024)(i:64<=H.length/\H.length<=1024):Ye (ZU A H):=by
 rcases cR A H with⟨_,_,e⟩|⟨g,K,t,h,_,e⟩|⟨g,K,t,h,_,e⟩
 ·rw[e]
  exact⟨QM.nil,by decide,by decide,by decide⟩
 ·obtain⟨j,k,_,_,b⟩:=gC h
  have a:=Xz 5 (c.drop 5) QM.nil;rw[b]at a;simp only[EM]at a;rw[e];refine⟨a.1,by show-1<=(0:Int)/\(0:Int)<=1;decide,?_,?_⟩
  ·show 0<=(t:Int)/\(t:Int)<=16384
   omega
  ·show 0<=g/\g<=2147483648
   omega
 ·obtain⟨j,k,_,_,b⟩:=gC h
  have a:=Xz 5 (d.drop 5) QM.nil;rw[b]at a;simp only[EM]at a;rw[e];refine⟨a.1,by show-1<=(1:Int)/\(1:Int)<=1;decide,?_,?_⟩
  ·show 0<=(t:Int)/\(t:Int)<=16384
   omega
  ·show 0<=g/\g<=2147483648
   omega
def Yh(a:h+H.length<=A.length)(b:D<h):(spl A h H).getD D 0=A.getD D 0:=by rw[IC,IC,kS a,AQ b]
def yAB(a:h+H.length<=A.length)(b:4<=h):VX (spl A h H)=VX A:=by unfold VX;rw[Yh a (by omega),Yh a (by omega),Yh a (by omega),Yh a (by omega)]
def zZh(a:h+H.length<=A.length)(b:5<=h):(spl A h H).drop 5=(A.drop 5).take (h-5)++(H++A.drop (h+H.length)):=by unfold spl;rw[FH,RH (by rw[DV];omega),LD]
def zWh(a:h+H.length<=A.length):(spl A h H).drop h=H++A.drop (h+H.length):=by unfold spl;rw[FH,RH (by rw[DV];omega),MN (by rw[DV];omega)];rfl
def zVh(a:h+H.length<=A.length):(spl A h H).drop (h+H.length)=A.drop (h+H.length):=by have:=zWh a;rw[<-IV,this,SH]
def Z8{t:Nat}(h:sG (A.drop t)=true)(k:Nat):A.drop (t+k)=List.replicate (A.length-(t+k)) 255:=by have:=Y3.1 h;rw[<-IV,this,XL];congr 1;simp;omega
def zPV{t:Nat}(a:EW A)(h:pB A=some (M,B,t))(e:EW H)(b:t+H.length<=A.length):pB (spl A t H)=some (M,oZ (H++A.drop (t+H.length)) B t):=by obtain⟨i,j,f,g,c⟩:=gC h;have d:=zKB a;rw[c]at d;simp only at d;unfold pB;rw[yAB b (by omega),<-f,Yh b (by omega),g,AP (by simp only[MK];exact⟨by simp,by omega,by omega⟩),zZh b (by omega)];have:=zWt (A.drop 5).length [] 5 (FN _) (a.drop 5) (H++A.drop (t+H.length)) (e.app (a.drop _));rw[c]at this;rw[this]
def zNs{t:Nat}(e:EW A)(h:pB A=some (M,B,t))(b:sG (A.drop t)=true)(f:1<=X.length)(c:X.length<=32)(d:∀x∈X,ZT x)(i:(wS B X).length<=32)(g:t+(wR X).length<=A.length):pB (spl A t (wR X))=some (M,wS B X,t+(wR X).length):=by have a:=iD c d;rw[zPV e h a g,Z8 b,dG (a.app (EW.rep (by decide))),zGh f c d];simp only;rw[AP (by omega),SH,dG (EW.rep (by decide)),zIQ]
def zVX{t:Nat}(m:EW A)(a:pB A=some (M,B,t))(c:sG (A.drop t)=true)(n:1<=X.length)(f:X.length<=32)(g:∀x∈X,ZT x)(o:(wS B X).length<=32)(p:t+(wR X).length<=A.length)(d:0<=y/\y<=255)(i:h<(wR X).length):pB (spl A t ((wR X).take h++[GR .u8 ((wR X).getD h 0) y]))=some (M,B,t)\/pB (spl A t ((wR X).take h++[GR .u8 ((wR X).getD h 0) y]))=some (M,wS B X,t+(wR X).length):=by
 have b:=iD f g;have j:=Xf (b.get h) d;have e:EW ((wR X).take h++[GR .u8 ((wR X).getD h 0) y]):=(b.take h).app (EW.cons j EW.nil);have q:((wR X).take h++[GR .u8 ((wR X).getD h 0) y]).length=h+1:=by simp;omega
 by_cases k:h+1<(wR X).length\/y≠0
 ·left
  rw[zPV m a e (by omega),Z8 c,dG (e.app (EW.rep (by decide))),zSc n f g d i k]
 ·right
  have r:y=0:=by omega
  have l:h+1=(wR X).length:=by omega
  have:(wR X).take h++[GR .u8 ((wR X).getD h 0) y]=wR X:=by rw[r,yBw (b.get h),IC,CJ i,GK,<-xA i,l,GU]
  rw[this];exact zNs m a c n f g o p
def Tt(k j:Nat):(xZ C k)[j]?=if j<C.size.toNat then C.bytes[k*C.size.toNat+j]?else none:=by
 unfold xZ;rw[LQ];split
 ·rw[MW]
 ·rfl
def zQT{k0 t:Nat}(hz:j.size=C.size)(i:j.bytes=spl C.bytes (k0*C.size.toNat+t) A)(l:t+A.length<=C.size.toNat)(m:k0*C.size.toNat+C.size.toNat<=C.bytes.length)(n:h*C.size.toNat+C.size.toNat<=C.bytes.length):xZ j h=if h=k0 then spl (xZ C h) t A else xZ C h:=by
 have k:(xZ C h).length=C.size.toNat:=by simp only[xZ,DV,EM];omega
 apply FW;intro a;rw[Tt,hz,i];by_cases c:a<C.size.toNat
 ·rw[AQ c,kS (by omega)]
  by_cases b:h=k0
  ·subst b
   rw[AQ O,kS (by omega),Tt,AQ c];by_cases f:a<t
   ·rw[AQ (by omega),AQ f]
   ·rw[AP (by omega),AP f]
    by_cases g:a<t+A.length
    ·rw[AQ (by omega),AQ g]
     congr 1;omega
    ·rw[AP (by omega),AP g]
  ·rw[AP b,Tt,AQ c]
   rcases Nat.lt_or_gt_of_ne b with d|e
   ·have:(h+1)*C.size.toNat<=k0*C.size.toNat:=MR _ d
    rw[FU]at this;rw[AQ (by omega)]
   ·have:(k0+1)*C.size.toNat<=h*C.size.toNat:=MR _ e
    rw[FU]at this;rw[AP (by omega),AP (by omega)]
 ·rw[AP c]
  split
  ·rw[MP (by rw[Pg (by omega)];omega)]
  ·rw[MP (by omega)]
def zQc{t:Nat}(e:h*C.size.toNat+C.size.toNat<=C.bytes.length)(b:sG ((xZ C h).drop t)=true)(f:t+D<=C.size.toNat):Z7 C.bytes (h*C.size.toNat+t) D:=by
 intro j g i;have c:(xZ C h).length=C.size.toNat:=by simp only[xZ,DV,EM];omega
 have d:=Z8 b 0
 have a:(xZ C h)[j-h*C.size.toNat]?=some 255:=by
  have:(xZ C h)[j-h*C.size.toNat]?=((xZ C h).drop (t+0))[j-h*C.size.toNat-t]?:=by rw[MW];congr 1;omega
  rw[this,d,QU,AQ (by omega)]
 rw[Tt,AQ (by omega)]at a;rw[<-a];congr 1;omega
def zWs(f:0<=M)(g:M<=2147483648)(q:List Int):VX (VY M++q)=M:=by obtain⟨n,rfl⟩:∃n:Nat,M=(n:Int):=⟨M.toNat,by omega⟩;have e8:(8:Int)=((8:Nat):Int):=rfl;have a:(16:Int)=((16:Nat):Int):=rfl;have b:(24:Int)=((24:Nat):Int):=rfl;have d:2^8=256:=rfl;have c:2^16=65536:=rfl;have e:2^24=16777216:=rfl;have h:IntKind.bits .i64=64:=rfl;unfold VY;rw[e8,a,b,cO (by omega),cO (by omega),cO (by omega),uP,uP,uP,uP,d,c,e];show((n%256:Nat):Int)+256*((n/256%256:Nat):Int)+65536*((n/65536%256:Nat):Int)+16777216*((n/16777216%256:Nat):Int)=(n:Int);omega
def zSI(h:∀j,j<4->A.getD j 0=H.getD j 0):VX A=VX H:=by unfold VX;rw[h 0 (by omega),h 1 (by omega),h 2 (by omega),h 3 (by omega)]
def zXI(hz:1024<=h){g:Int}(W:1<=g)(N:g<=2147483648)(b:QM B)(z:A=spl (spl (spl (List.replicate h 255) 0 (VY g)) 5 (if B=[]then[]else wR B)) 4 [0]):pB A=some (g,B,5+(if B=[]then[]else wR B).length)/\sG (A.drop (5+(if B=[]then[]else wR B).length))=true:=by
 obtain⟨w,C⟩:∃w,(if B=[]then[]else wR B)=w:=⟨_,rfl⟩;rw[C]at z⊢;have E:=Tn b.len b.ok
 have P:w.length<=962:=by
  rw[<-C];split
  ·simp
  ·exact E.2
 have F:EW w:=by
  rw[<-C];split
  ·exact EW.nil
  ·exact iD b.len b.ok
 have l:(VY g).length=4:=rfl;have m:(List.replicate h (255:Int)).length=h:=by simp
 obtain⟨b1,n⟩:∃b1,spl (List.replicate h 255) 0 (VY g)=b1:=⟨_,rfl⟩;have Q:b1.length=h:=by rw[<-n,Pg (by rw[l,m];omega),m]
 obtain⟨b2,p⟩:∃b2,spl b1 5 w=b2:=⟨_,rfl⟩;have R:b2.length=h:=by rw[<-p,Pg (by omega),Q]
 rw[n,p]at z;have J:A.length=h:=by rw[z,Pg (by simp;omega),R]
 have d:∀j,A[j]?=if j<4 then(VY g)[j]?else if j=4 then some 0 else if j<5+w.length then w[j-5]?else if j<h then some 255 else none:=by
  intro j;rw[z,kS (by simp;omega),<-p,kS (by omega),<-n,kS (by rw[l,m];omega),QU];simp only[RP,l,Nat.not_lt_zero,EI,KE,Nat.sub_zero];by_cases G:j<4
  ·simp only[G,FO,show j<5 by omega]
  ·by_cases s:j=4
   ·subst s;simp
   ·by_cases K:j<5+w.length
    ·simp only[G,s,K,FO,EI,show¬j<4+1 by omega,show¬j<5 by omega]
    ·simp only[G,s,K,FO,EI,show¬j<4+1 by omega,show¬j<5 by omega]
 have f:A.drop 5=w++List.replicate (h-(5+w.length)) 255:=by
  apply FW;intro j;rw[MW,d,AP (by omega),AP (by omega)];by_cases c:j<w.length
  ·rw[AQ (by omega),NT c]
   congr 1;omega
  ·rw[AP (by omega),JM (by omega),QU]
   by_cases s:5+j<h
   ·rw[AQ s,AQ (by omega)]
   ·rw[AP s,AP (by omega)]
 have S:A.getD 4 0=0:=by rw[IC,d,AP (by omega),AQ O];rfl
 have t:VX A=g:=by
  have:=zWs (q:=[]) (show 0<=g by omega) N;rw[<-this];refine zSI λj T=>?_
  rw[IC,IC,d,AQ T,MB]
 have H:oZ (A.drop 5) [] 5=(B,5+w.length):=by
  rw[f,dG (F.app (EW.rep (by decide))),<-C];by_cases i:B=[]
  ·rw[AQ i,JI,zIQ,i]
   rfl
  ·rw[AP i]
   have u:=OH.2 i;rw[zGh u b.len b.ok]
   have v:wS [] B=B:=by
    refine zOz (Y5 XR) b.Tj (zPb λx a=>(by cases a)) b.nd λk=>?_
    rw[zMV]
    have key:∀(L:List zF) (o:Option (List Int)),Asc L->Nd L->Xw L k o=(nS L k).or o:=by
     intro L;induction L with
     |nil=>intro o _ _;rfl
     |cons x r M=>
      intro o U I;have hp:=NJ.1 U;have V:=I x (by simp);unfold Xw;rw[LW,tF];by_cases D:k=x.Key
      ·rw[AQ D,V,AP (by decide),AQ D.symm]
       have:=M (some x.Value) hp.2 (λy hy=>I y (by simp[hy]));unfold Xw at this;rw[this,Td.2 (λy hy=>by have:=hp.1 y hy;omega)];rfl
      ·rw[AP D,AP (λe=>D e.symm)]
       exact M o hp.2 (λy hy=>I y (by simp[hy]))
    rw[key B _ b.Tj b.nd,zKt];cases nS B k<;>rfl
   simp only;rw[v,AP (by have:=b.len;omega),SH,dG (EW.rep (by decide)),zIQ]
 constructor
 ·unfold pB
  rw[S,t,AP (by simp only[MK];exact⟨by simp,by omega,by omega⟩),H]
 ·rw[<-IV,f,SH,Y3]
  simp
def Yi(h:A.getD 4 0≠0):pB A=none:=AQ (.inl h)
def yAt{c:List Int}(h:ZU A H=Q)(d:pB c=none):(Q.act=0->ZU A c=Q)/\(Q.act≠0->ZU c H=Q):=by
 rcases cR A H with⟨f,b,e⟩|⟨g,K,t,f,b,e⟩|⟨g,K,t,b,f,e⟩
 ·rw[e]at h
  subst h;exact⟨λa=>(by cases a),λ_=>zLL d b⟩
 ·rw[e]at h
  subst h;exact⟨λ_=>Tq f λp hp=>(by rw[d]at hp;cases hp),λa=>absurd rfl a⟩
 ·rw[e]at h
  subst h;exact⟨λa=>(by cases a),λ_=>Yg b λp hp=>by rw[d]at hp;cases hp⟩
def yAh{c:List Int}(h:ZU A H=Q){t:Nat}(d:pB c=some (Q.gen+1,B,t)):(Q.act=0->ZU A c=Bz 1 c (Q.gen+1) B t)/\(Q.act≠0->ZU c H=Bz 0 c (Q.gen+1) B t):=by
 rcases cR A H with⟨f,b,e⟩|⟨g,K,i,f,b,e⟩|⟨g,K,i,b,f,e⟩
 ·rw[e]at h
  subst h;exact⟨λa=>(by cases a),λ_=>Tq d λp hp=>by rw[b]at hp;cases hp⟩
 ·rw[e]at h
  subst h;refine⟨λ_=>Yg d λp hp=>?_,λa=>absurd O a⟩;rw[f]at hp;injection hp with hp;subst hp;show g<g+1;omega
 ·rw[e]at h
  subst h;refine⟨λa=>(by cases a),λ_=>Tq d λp hp=>?_⟩;rw[b]at hp;injection hp with hp;subst hp;show g<=g+1;omega
structure aZ(d e:zB)(k:Nat)(c:List Int):Prop where
 ok:JD e
 size:e.size=d.size
 BO:e.BO.length=d.BO.length
 DT:e.DT=d.DT
 len:e.bytes.length=d.bytes.length
 at_:xZ e k=c
 Tv:∀j,j≠k->j<d.BO.length->xZ e j=xZ d j
def aZ.refl(h:JD C)(k:Nat):aZ C C k (xZ C k):=⟨h,O,O,O,O,O,λ_ _ _=>O⟩
def aZ.write(c:aZ C j h A)(a:JD C)(n:h<C.BO.length){e':zB}{t:Nat}{w:List Int}(f:JD e')(g:e'.size=j.size)(o:e'.BO.length=j.BO.length)(i:e'.DT=j.DT)(k:e'.bytes=spl j.bytes (h*C.size.toNat+t) w)(l:t+w.length<=C.size.toNat):aZ C e' h (spl A t w):=by
 have d:=uE a n;have hz:j.size.toNat=C.size.toNat:=by rw[c.size]
 refine⟨f,g.trans c.size,o.trans c.BO,i.trans c.DT,?_,?_,λb m e=>?_⟩
 ·rw[k,Pg (by rw[c.len];omega),c.len]
 ·rw[zQT (k0:=h) g (by rw[hz];exact k) (by rw[hz];exact l) (by rw[hz,c.len];exact d) (by rw[hz,c.len];exact d),AQ O,c.at_]
 ·rw[zQT (k0:=h) g (by rw[hz];exact k) (by rw[hz];exact l) (by rw[hz,c.len];exact d) (by rw[hz,c.len];exact uE a e),AP m,c.Tv b m e]
def aZ.prog(c:aZ C j h A)(a:JD C)(f:h<C.BO.length)(r:j.down=false){t:Nat}{w:List Int}(l:EW w)(s:t+w.length<=C.size.toNat)(g:∀b,t<=b->b<t+w.length->A[b]?=some 255):((yO j ((h*C.size.toNat+t:Nat):Int) w).2=0/\(yO j ((h*C.size.toNat+t:Nat):Int) w).1.down=false/\aZ C (yO j ((h*C.size.toNat+t:Nat):Int) w).1 h (spl A t w))\/((yO j ((h*C.size.toNat+t:Nat):Int) w).2=10/\(yO j ((h*C.size.toNat+t:Nat):Int) w).1.down=true/\∃n,n<w.length/\aZ C (yO j ((h*C.size.toNat+t:Nat):Int) w).1 h (spl A t (w.take n++[GR .u8 (w.getD n 0) C.DT]))):=by
 have u:=uE a f;have hz:j.size.toNat=C.size.toNat:=by rw[c.size]
 have k:Z7 j.bytes (h*C.size.toNat+t) w.length:=λb d e=>by have:=g (b-h*C.size.toNat) (by omega) (by omega);rw[<-c.at_,Tt,hz,AQ (by omega)]at this;rw[<-this];congr 1;omega
 obtain⟨m,o,p,v,q⟩:=zQN c.ok l ((h*C.size.toNat+t:Nat):Int);rcases zMs (i:=h*C.size.toNat+t) c.ok r l (by rw[c.len];omega) k with⟨d,e,h3⟩|⟨d,e,n,hn,h3⟩
 ·exact .inl ⟨d,h3,c.write a f m o p q e s⟩
 ·refine .inr ⟨d,e,n,hn,?_⟩
  rw[c.DT]at h3;exact c.write a f m o p q h3 (by simp;omega)
def zTm(a:JD C)(d:h<C.BO.length)(k:C.down=false):((tJ C (h:Int)).2=0/\(tJ C (h:Int)).1.down=false/\aZ C (tJ C (h:Int)).1 h (List.replicate C.size.toNat 255))\/((tJ C (h:Int)).2=10/\(tJ C (h:Int)).1.down=true/\aZ C (tJ C (h:Int)).1 h ((xZ C h).map λx=>GR .u8 x C.DT)):=by
 have o:=uE a d;have c:=oF a d;obtain⟨e,f,g,q,i⟩:=zIJ a (h:Int)
 have key:∀v,PL C.bytes (h*C.size.toNat) C.size.toNat v=spl C.bytes (h*C.size.toNat+0) ((xZ C h).map λx=>GR .u8 x v):=λv=>by unfold PL spl xZ;rw[LH];simp only[FQ,DV,EM];congr 2;omega
 have b:(xR (NF C h)).1.down=(xR (NF C h)).2:=U7 k;have n:(h:Int).toNat=h:=rfl;cases j:(xR (NF C h)).2
 ·left
  have l:tJ C (h:Int)=(WB (xR (NF C h)).1 (PL C.bytes (h*C.size.toNat) C.size.toNat 255),0):=by unfold tJ;rw[AP (by simp[k]),AP (by omega),n,j];rfl
  rw[l]at e f g i⊢;rw[j]at b;refine⟨O,b,?_⟩;have:=(aZ.refl a h).write a d (e':=WB (xR (NF C h)).1 (PL C.bytes (h*C.size.toNat) C.size.toNat 255)) (t:=0) (w:=(xZ C h).map λx=>GR .u8 x 255) e f g i (key 255) (by simp[c])
  have m:spl (xZ C h) 0 ((xZ C h).map λx=>GR .u8 x 255)=List.replicate C.size.toNat 255:=by unfold spl;rw[SI,JI,KE,MN (by simp),MB,ug];refine⟨by simp[c],λx p=>?_⟩;obtain⟨y,hy,rfl⟩:=FM.1 p;exact yAK (mU a h y hy)
  rw[m]at this;exact this
 ·right
  have l:tJ C (h:Int)=(WB (xR (NF C h)).1 (PL C.bytes (h*C.size.toNat) C.size.toNat C.DT),10):=by unfold tJ;rw[AP (by simp[k]),AP (by omega),n,j];rfl
  rw[l]at e f g i⊢;rw[j]at b;refine⟨O,b,?_⟩;have:=(aZ.refl a h).write a d (e':=WB (xR (NF C h)).1 (PL C.bytes (h*C.size.toNat) C.size.toNat C.DT)) (t:=0) (w:=(xZ C h).map λx=>GR .u8 x C.DT) e f g i (key C.DT) (by simp[c])
  have m:spl (xZ C h) 0 ((xZ C h).map λx=>GR .u8 x C.DT)=(xZ C h).map λx=>GR .u8 x C.DT:=by unfold spl;rw[SI,JI,KE,MN (by simp),MB]
  rw[m]at this;exact this
def zNg{o:OS}(a:JD C)(hd:C.down=false)(hz:1024<=C.size)(hf:h+1<C.BO.length)(G:QM B):((lB o C h B).2=0/\(lB o C h B).1.down=false/\aZ C (lB o C h B).1 (h+vS o) (spl (spl (spl (List.replicate C.size.toNat 255) 0 (VY (o.gen+1))) 5 (if B=[]then[]else wR B)) 4 [0]))\/((lB o C h B).2=10/\(lB o C h B).1.down=true/\∃c,aZ C (lB o C h B).1 (h+vS o) c/\(c=spl (spl (spl (List.replicate C.size.toNat 255) 0 (VY (o.gen+1))) 5 (if B=[]then[]else wR B)) 4 [0]\/pB c=none\/c=xZ C (h+vS o))):=by
 have hw:=a.BO;have hsz:=a.size;have Oy:vS o<=1:=by unfold vS;split<;>omega
 have p:h+vS o<C.BO.length:=by omega
 obtain⟨k,y⟩:∃k,h+vS o=k:=⟨_,rfl⟩;rw[y]at p⊢;have hle:=uE a p;obtain⟨z,d⟩:∃z,C.size.toNat=z:=⟨_,rfl⟩;have hz':1024<=z:=by omega
 have J:=Tn G.len G.ok;obtain⟨w,f⟩:∃w,(if B=[]then[]else wR B)=w:=⟨_,rfl⟩
 have hwl:w.length<=962:=by
  rw[<-f];split
  ·simp
  ·exact J.2
 have K:EW w:=by
  rw[<-f];split
  ·exact EW.nil
  ·exact iD G.len G.ok
 have g:(VY (o.gen+1)).length=4:=rfl;have L:=Yf (o.gen+1);unfold lB;simp only;rw[y,d,f];obtain⟨i,A⟩:∃i,(if sG (xZ C k)then(C,0)else tJ C (k:Int))=i:=⟨_,rfl⟩;rw[A]
 have s1:(i.2=0/\i.1.down=false/\aZ C i.1 k (List.replicate z 255))\/(i.2=10/\i.1.down=true/\aZ C i.1 k ((xZ C k).map λx=>GR .u8 x C.DT)):=by
  rw[<-A];split
  ·rename_i hb
   left;refine⟨O,hd,?_⟩;have:=aZ.refl a k;rw[Y3.1 hb,oF a p,d]at this;exact this
  ·have:=zTm a p hd
   rw[d]at this;exact this
 rcases s1 with⟨H,M,N⟩|⟨H,M,N⟩
 case inr=>
  right
  have e1:(qR (qR (qR i λP=>yO P ((k*z:Nat):Int) (VY (o.gen+1))) λq=>if B=[]then(q,0)else yO q (((k*z:Nat):Int)+5) (wR B)) λr=>yO r (((k*z:Nat):Int)+4) [0])=i:=by
   have b:¬i.2=0:=by rw[H];decide
   unfold qR;rw[AP b,AP b,AP b]
  rw[e1];refine⟨H,M,_,N,?_⟩;by_cases D:C.DT=0
  ·right;right
   rw[D]
   conv=>rhs;rw[<-QH (xZ C k)]
   apply MS;intro x hx;exact yBw (mU a k x hx)
  ·right;left
   refine Yi ?_;rw[IC,IJ];have Q:4<(xZ C k).length:=by rw[oF a p];omega
   rw[CJ Q];show GR .u8 (xZ C k)[4] C.DT≠0;intro e;exact D ((or_zero (mU a k _ (DJ Q)) a.DT).1 e).2
 have R:∀j,j<z->(List.replicate z (255:Int))[j]?=some 255:=λj E=>by rw[QU,AQ E]
 have e2:(qR i λP=>yO P ((k*z:Nat):Int) (VY (o.gen+1)))=yO i.1 ((k*z:Nat):Int) (VY (o.gen+1)):=by unfold qR;rw[AQ H]
 rw[e2];have S:=N.prog a p M (t:=0) L (by rw[d,g];omega) (λj _ E=>R j (by rw[g]at E;omega));rw[d,LH]at S;obtain⟨m,T⟩:∃m,yO i.1 ((k*z:Nat):Int) (VY (o.gen+1))=m:=⟨_,rfl⟩;rw[T]at S⊢
 have U:∀(u:List Int),u.length<=4->(spl (List.replicate z (255:Int)) 0 u).getD 4 0=255:=λu hu=>by rw[IC,kS (by simp;omega),AP (by omega),AP (by omega),R 4 (by omega)];rfl
 rcases S with⟨b1,b2,b3⟩|⟨b1,b2,n,F,b3⟩
 case inr=>
  right
  have e3:(qR (qR m λq=>if B=[]then(q,0)else yO q (((k*z:Nat):Int)+5) (wR B)) λr=>yO r (((k*z:Nat):Int)+4) [0])=m:=by
   have b:¬m.2=0:=by rw[b1];decide
   unfold qR;rw[AP b,AP b]
  rw[e3];refine⟨b1,b2,_,b3,.inr (.inl (Yi ?_))⟩;rw[U _ (by rw[g]at F;simp[g];omega)];decide
 obtain⟨s,v⟩:∃s,spl (List.replicate z (255:Int)) 0 (VY (o.gen+1))=s:=⟨_,rfl⟩;rw[v]at b3⊢;have aSl:s.length=z:=by rw[<-v,Pg (by simp[g];omega)];simp
 have V:∀j,4<=j->j<z->s[j]?=some 255:=λj Q E=>by rw[<-v,kS (by simp[g];omega),AP (by omega),AP (by rw[g];omega),R j E]
 have e4:(qR m λq=>if B=[]then(q,0)else yO q (((k*z:Nat):Int)+5) (wR B))=if B=[]then(m.1,0)else yO m.1 (((k*z:Nat):Int)+5) (wR B):=by unfold qR;rw[AQ b1]
 rw[e4]
 have W:∃l,(if B=[]then(m.1,0)else yO m.1 (((k*z:Nat):Int)+5) (wR B))=l/\((l.2=0/\l.1.down=false/\aZ C l.1 k (spl s 5 w))\/(l.2=10/\l.1.down=true/\∃n,n<w.length/\aZ C l.1 k (spl s 5 (w.take n++[GR .u8 (w.getD n 0) C.DT])))):=by
  refine⟨_,O,?_⟩;by_cases b:B=[]
  ·rw[AQ b]
   left;rw[AQ b]at f;rw[<-f,zTV];exact⟨O,b2,b3⟩
  ·rw[AP b]
   rw[AP b]at f;have e5:((k*z:Nat):Int)+5=((k*z+5:Nat):Int):=by omega
   have:=b3.prog a p b2 (t:=5) K (by rw[d];omega) (λj h1 h2=>V j (by omega) (by omega));rw[d]at this;rw[e5,f];exact this
 obtain⟨l,X,W⟩:=W;rw[X];rcases W with⟨I,Y,Z⟩|⟨I,Y,n,F,Z⟩
 case inr=>
  right
  have e6:(qR l λr=>yO r (((k*z:Nat):Int)+4) [0])=l:=by
   have b:¬l.2=0:=by rw[I];decide
   unfold qR;rw[AP b]
  rw[e6];refine⟨I,Y,_,Z,.inr (.inl (Yi ?_))⟩;rw[IC,kS (by simp;omega),AQ (by omega),V 4 (by omega) (by omega)];decide
 have e7:(qR l λr=>yO r (((k*z:Nat):Int)+4) [0])=yO l.1 (((k*z:Nat):Int)+4) [0]:=by unfold qR;rw[AQ I]
 rw[e7];have e8:((k*z:Nat):Int)+4=((k*z+4:Nat):Int):=by omega
 rw[e8]
 have aD7:∀j,4<=j->j<4+[(0:Int)].length->(spl s 5 w)[j]?=some 255:=λj h1 h2=>by simp only[RP]at h2;rw[kS (by omega),AQ (by omega),V j h1 (by omega)]
 have s4:=Z.prog a p Y (t:=4) (w:=[0]) (EW.cons (by decide) EW.nil) (by rw[d];simp;omega) aD7;rw[d]at s4;rcases s4 with⟨i1,i2,i3⟩|⟨i1,i2,n,F,i3⟩
 ·exact .inl ⟨i1,i2,i3⟩
 ·right
  refine⟨i1,i2,_,i3,?_⟩;have hn0:n=0:=by simp at F;exact F
  subst hn0;have e9:(([0]:List Int).take 0++[GR .u8 (([0]:List Int).getD 0 0) C.DT])=[GR .u8 0 C.DT]:=rfl;rw[e9];by_cases D:C.DT=0
  ·left
   rw[D,yBw (by decide)]
  ·right;left
   refine Yi ?_;rw[IC,kS (by rw[Pg (by omega)];simp;omega),AP (by omega),AQ (by simp)];show GR .u8 0 C.DT≠0;intro e;exact D ((or_zero (by decide) a.DT).1 e).2
structure Gp(d e:zB):Prop where
 ok:JD e
 size:e.size=d.size
 BO:e.BO.length=d.BO.length
 DT:e.DT=d.DT
 len:e.bytes.length=d.bytes.length
def Gp.refl(h:JD C):Gp C C:=⟨h,O,O,O,O⟩
def aZ.like(a:aZ C j h A):Gp C j:=⟨a.ok,a.size,a.BO,a.DT,a.len⟩
structure zYU(o:OS)(d:zB)(f:Nat)(l:List zF)(r:Option OS×zB×Int):Prop where
 like:Gp d r.2.1
 cases:(r.2.2=0/\r.2.1.down=false/\r.1=some (DU r.2.1 f)/\fM l=0/\(DU r.2.1 f).K=wS o.K l/\(DU r.2.1 f).gen<=o.gen+1)\/
  ((r.2.2=1\/r.2.2=3\/r.2.2=7)/\r.1=some o/\r.2.1=d)\/
  (r.2.2=10/\r.2.1.down=true/\r.1=none/\fM l=0/\((DU r.2.1 f).K=o.K\/(DU r.2.1 f).K=wS o.K l)/\(DU r.2.1 f).gen<=o.gen+1)
def zXz(b:∀x∈B,0<=x.Key/\x.Key<=255/\EW x.Value)(h:fM B=0):∀x∈B,ZT x:=λx a=>
 have c:=(Y8 h).2 x a
 ⟨⟨(b x a).1,(b x a).2.1⟩,c.1,(b x a).2.2,c.2⟩
def Yj(a:JD C)(hz:1024<=C.size)(b:h+1<C.BO.length):Ye (DU C h):=by have c:=a.size;rw[kE];exact zZI (mU a _) (mU a _) (by rw[oF a (by omega)];omega) (by rw[oF a b];omega)
def zIx(b:JD C)(V:C.down=false)(hz:1024<=C.size)(W:h+1<C.BO.length)(o:DU C h=Q)(p:fM B=0)(u:B≠[])(G:∀x∈B,ZT x)(v:(wS Q.K B).length<=32)(X:0<=Q.act)(q:Q.clean=true)(w:((wR B).length:Int)<=C.size-Q.tail):zYU Q C h B (WE Q ⟨Q.act,Q.gen,wS Q.K B,Q.tail+(wR B).length,Q.clean⟩ (yO C (((h+Q.act.toNat)*C.size.toNat:Nat)+Q.tail) (wR B))):=by
 have s:=Y8 p;have m:1<=B.length:=OH.2 u;have H:=iD s.1 G;have Y:=b.size
 have key:∃(a:Nat) (t:Nat),Q.act=(a:Int)/\a<=1/\Q.tail=(t:Int)/\pB (xZ C (h+a))=some (Q.gen,Q.K,t)/\sG ((xZ C (h+a)).drop t)=true/\
   (∀(e:zB) (A:List zF) (y:Nat),pB (xZ e (h+a))=some (Q.gen,A,y)->(∀j,j≠h+a->j<C.BO.length->xZ e j=xZ C j)->DU e h=⟨(a:Int),Q.gen,A,(y:Int),sG ((xZ e (h+a)).drop y)⟩):=by
  rw[kE]at o;rcases cR (xZ C h) (xZ C (h+1))with⟨_,_,e⟩|⟨g,K,t,I,D,e⟩|⟨g,K,t,D,I,e⟩
  ·rw[e]at o
   subst o;exact absurd X (by decide)
  ·rw[e]at o
   subst o;refine⟨0,t,O,by omega,O,I,q,λe A y k f=>?_⟩;rw[kE,f (h+1) (by omega) W];exact Tq k D
  ·rw[e]at o
   subst o;refine⟨1,t,O,by omega,O,D,q,λe A y k f=>?_⟩;rw[kE,f h (by omega) (by omega)];exact Yg k I
 obtain⟨a,t,T,Z,J,U,E,c⟩:=key;have L:h+a<C.BO.length:=by omega
 have M:=uE b L;rw[J]at w
 have N:((h+Q.act.toNat)*C.size.toNat:Nat)+Q.tail=(((h+a)*C.size.toNat+t:Nat):Int):=by rw[T,J];have:(a:Int).toNat=a:=rfl;rw[this];omega
 rw[N];have i:t+(wR B).length<=C.size.toNat:=by omega
 have d:(xZ C (h+a)).length=C.size.toNat:=oF b L
 have P:∀j,t<=j->j<t+(wR B).length->(xZ C (h+a))[j]?=some 255:=λj D k=>by have:=zQc M E i ((h+a)*C.size.toNat+j) (by omega) (by omega);rw[Tt,AQ (by omega)];exact this
 obtain⟨r,hr⟩:∃r,yO C (((h+a)*C.size.toNat+t:Nat):Int) (wR B)=r:=⟨_,rfl⟩;have hp:=(aZ.refl b (h+a)).prog b L V H i P;rw[hr]at hp⊢;rcases hp with⟨F,R,l⟩|⟨F,R,n,hn,l⟩
 ·have k:=zNs (mU b _) U E m s.1 G v (by rw[d];exact i)
  have f:=c r.1 (wS Q.K B) (t+(wR B).length) (by rw[l.at_];exact k) l.Tv
  have z:sG ((xZ r.1 (h+a)).drop (t+(wR B).length))=true:=by rw[l.at_,zVh (by rw[d];exact i),Z8 E,Y3];simp
  rw[z]at f;unfold WE;rw[AQ F];refine⟨l.like,.inl ⟨O,R,?_,p,by rw[f],by rw[f];show Q.gen<=Q.gen+1;omega⟩⟩;rw[f,T,J,q];congr 2
 ·have S:¬r.2=0:=by rw[F];decide
  unfold WE;rw[AP S,AQ F];refine⟨l.like,.inr (.inr ⟨O,R,O,p,?_⟩)⟩;rcases zVX (mU b _) U E m s.1 G v (by rw[d];exact i) b.DT hn with k|k
  ·have f:=c r.1 _ _ (by rw[l.at_];exact k) l.Tv
   rw[f];exact⟨.inl O,by show Q.gen<=Q.gen+1;omega⟩
  ·have f:=c r.1 _ _ (by rw[l.at_];exact k) l.Tv
   rw[f];exact⟨.inr O,by show Q.gen<=Q.gen+1;omega⟩
def zZo(a:JD C)(H:C.down=false)(hz:1024<=C.size)(x:h+1<C.BO.length)(n:DU C h=Q)(q:fM B=0)(y:QM (wS Q.K B))(L:Q.gen≠2147483648):zYU Q C h B (WE Q (Tm Q (wS Q.K B)) (lB Q C h (wS Q.K B))):=by
 have z:=Yj a hz x;rw[n]at z;have I:=z.gen;have M:vS Q<=1:=by unfold vS;split<;>omega
 have E:=z.act;obtain⟨N,v⟩:∃N,wS Q.K B=N:=⟨_,rfl⟩;rw[v]at y;have A:1024<=C.size.toNat:=by omega
 have key:∀(e:zB) (c:List Int),aZ C e (h+vS Q) c->(pB c=none->DU e h=Q)/\(∀t,pB c=some (Q.gen+1,N,t)->DU e h=Bz (vS Q:Int) c (Q.gen+1) N t)/\(c=xZ C (h+vS Q)->DU e h=Q):=by
  intro e c j;rw[kE]at n;have F:=λb=>yAt (c:=c) n b
  have G:=λ(t:Nat) (b:pB c=some (Q.gen+1,N,t))=>yAh (c:=c) n b
  rw[kE];by_cases p:Q.act=0
  ·have k:vS Q=1:=by unfold vS;rw[AQ p]
   rw[k]at j⊢;rw[j.Tv h (by omega) (by omega),j.at_];exact⟨λb=>(F b).1 p,λt b=>(G t b).1 p,λb=>by rw[b];exact n⟩
  ·have k:vS Q=0:=by unfold vS;rw[AP p]
   rw[k]at j⊢;rw[LH]at j⊢;rw[j.Tv (h+1) (by omega) x,j.at_];exact⟨λb=>(F b).2 p,λt b=>(G t b).2 p,λb=>by rw[b];exact n⟩
 rw[v];have f:=zXI A (g:=Q.gen+1) (by omega) (by omega) y O;obtain⟨r,J⟩:∃r,lB Q C h N=r:=⟨_,rfl⟩;have s:=zNg (o:=Q) a H hz x y;rw[J]at s⊢
 have u:Bz (vS Q:Int) (spl (spl (spl (List.replicate C.size.toNat 255) 0 (VY (Q.gen+1))) 5 (if N=[]then[]else wR N)) 4 [0]) (Q.gen+1) N (5+(if N=[]then[]else wR N).length)=Tm Q N:=by
  unfold Bz Tm;rw[f.2];congr 1;by_cases d:N=[]
  ·rw[AQ d,AQ d];rfl
  ·rw[AP d,AP d];omega
 rcases s with⟨w,D,i⟩|⟨w,D,c,i,l⟩
 ·have m:=(key r.1 _ i).2.1 _ f.1
  rw[u]at m;unfold WE;rw[AQ w];exact⟨i.like,.inl ⟨O,D,by rw[m],q,by rw[m,v];rfl,by rw[m];exact ZA _⟩⟩
 ·have d:¬r.2=0:=by rw[w];decide
  unfold WE;rw[AP d,AQ w];refine⟨i.like,.inr (.inr ⟨O,D,O,q,?_⟩)⟩;rcases l with l|l|l
  ·rw[l]at i
   have m:=(key r.1 _ i).2.1 _ f.1;rw[u]at m;rw[m];exact⟨.inr v.symm,ZA _⟩
  ·rw[(key r.1 _ i).1 l]
   exact⟨.inl O,by omega⟩
  ·rw[(key r.1 _ i).2.2 l]
   exact⟨.inl O,by omega⟩
def zXV(a:JD C)(i:C.down=false)(hz:1024<=C.size)(j:h+1<C.BO.length)(f:DU C h=Q)(o:∀x∈B,0<=x.Key/\x.Key<=255/\EW x.Value):zYU Q C h B (ZK Q C h B):=by
 unfold ZK;rw[AP (by simp[i])];by_cases k:fM B≠0
 ·rw[AQ k]
  refine⟨Gp.refl a,.inr (.inl ⟨?_,O,O⟩)⟩;rcases zPL B with e|e|e|e
  ·exact absurd e k
  ·exact .inl e
  ·exact .inr (.inr e)
  ·exact .inr (.inl e)
 ·have d:fM B=0:=by omega
  rw[AP k];by_cases b:B=[]
  ·rw[AQ b]
   refine⟨Gp.refl a,.inl ⟨O,i,by rw[f],d,by rw[f,b];rfl,by rw[f];show Q.gen<=Q.gen+1;omega⟩⟩
  ·rw[AP b]
   by_cases g:(wS Q.K B).length>32
   ·rw[AQ g]
    exact⟨Gp.refl a,.inr (.inl ⟨.inr (.inl O),O,O⟩)⟩
   ·rw[AP g]
    have m:=zXz o d;have n:=Yj a hz j;rw[f]at n;by_cases c:0<=Q.act/\Q.clean=true/\((wR B).length:Int)<=C.size-Q.tail
    ·rw[AQ c]
     exact zIx a i hz j f d b m (by omega) c.1 c.2.1 c.2.2
    ·rw[AP c]
     by_cases l:Q.gen=2147483648
     ·rw[AQ l]
      exact⟨Gp.refl a,.inr (.inl ⟨.inr (.inl O),O,O⟩)⟩
     ·rw[AP l]
      exact zZo a i hz j f d (n.K.all m (by omega)) l
def zWM(a:JD C)(f:C.down=false)(hz:1024<=C.size)(i:h+1<C.BO.length)(p:DU C h=Q)(u:∀x∈B,0<=x.Key/\x.Key<=255/\EW x.Value)(j:fM B=0)(e:(wS Q.K B).length<=32)(D:Q.gen<2147483648):(ZK Q C h B).2.2=0\/(ZK Q C h B).2.2=10:=by
 have q:=zXz u j;have k:=Yj a hz i;rw[p]at k;have v:=k.K.all q e;unfold ZK;rw[AP (by simp[f]),AP (by simp[j])];split
 ·exact .inl O
 ·rename_i d
  rw[AP (by omega)];split
  ·rename_i c
   rcases(zIx a f hz i p j d q e c.1 c.2.1 c.2.2).cases with g|g|g
   ·exact .inl g.1
   ·exfalso
    obtain⟨b,w,E⟩:=g;unfold WE at b w;split at b
    ·rcases b with b|b|b<;>cases b
    ·split at b
     ·rcases b with b|b|b<;>cases b
     ·rename_i l m
      have:=zIx a f hz i p j d q e c.1 c.2.1 c.2.2;simp only at b;unfold yO at b l m;rw[AP (by simp[f])]at b l m;split at b
      ·rename_i r
       rw[AQ r]at l m;rcases Xi (wR B) C (((h+Q.act.toNat)*C.size.toNat:Nat)+Q.tail).toNat with s|s
       ·exact l s
       ·exact m s
      ·rename_i r
       have y:=k.act;have z:=uE a (show h+Q.act.toNat<C.BO.length by omega);have A:=a.size;have F:=k.tail;exact r ⟨by omega,by omega,by omega,by omega⟩
   ·exact .inr g.1
  ·rw[AP (by omega)]
   have t:=zNg (o:=Q) a f hz i v;unfold WE;rcases t with⟨n,_⟩|⟨n,_⟩
   ·rw[AQ n];exact .inl O
   ·rw[AP (by rw[n];decide),AQ n];exact .inr O
def zKT{d:zB}(h:d.left=0)(a:d.down=false):(xR d).2=false/\(xR d).1.left=0/\(xR d).1.down=false:=by unfold xR;rw[AP (by omega)];exact⟨a,h,a⟩
def zLY:∀(b:List Int) (d:zB) (i:Nat),d.left=0->d.down=false->(nX d i b).2=0/\(nX d i b).1.left=0/\(nX d i b).1.down=false
 |[],d,i,h,a=>⟨O,h,a⟩|x::b,d,i,h,a=>by obtain⟨c,e,f⟩:=zKT h a;unfold nX;rw[AP (by rw[c];decide)];exact zLY b (VT (xR d).1 i _) (i+1) e f
def cX(h:C.left=0)(c:C.down=false)(a:Int)(b:List Int):(yO C a b).2≠10/\(yO C a b).1.left=0/\(yO C a b).1.down=false:=by
 unfold yO;rw[AP (by simp[c])];split
 ·obtain⟨d,e,f⟩:=zLY b C a.toNat h c
  exact⟨by rw[d];decide,e,f⟩
 ·exact⟨by simp,h,c⟩
def zPZ(h:C.left=0)(a:C.down=false)(s:Int):(tJ C s).2≠10/\(tJ C s).1.left=0/\(tJ C s).1.down=false:=by
 unfold tJ;rw[AP (by simp[a])];split
 ·exact⟨by simp,h,a⟩
 ·obtain⟨b,c,e⟩:=zKT (d:=NF C s.toNat) h a
  rw[b];exact⟨by simp,c,e⟩
def zIA{r:zB×Int}{g:zB->zB×Int}(a:r.2≠10/\r.1.left=0/\r.1.down=false)(b:∀e:zB,e.left=0->e.down=false->(g e).2≠10/\(g e).1.left=0/\(g e).1.down=false):(qR r g).2≠10/\(qR r g).1.left=0/\(qR r g).1.down=false:=by
 unfold qR;split
 ·exact b _ a.2.1 a.2.2
 ·exact a
def zSs(h:C.left=0)(c:C.down=false)(o:OS)(f:Nat)(N:List zF):(lB o C f N).2≠10/\(lB o C f N).1.left=0/\(lB o C f N).1.down=false:=by
 unfold lB;refine zIA (zIA (zIA ?_ λe a b=>cX a b _ _) λe a b=>?_) λe a b=>cX a b _ _
 ·split
  ·exact⟨by simp,h,c⟩
  ·exact zPZ h c _
 ·split
  ·exact⟨by simp,a,b⟩
  ·exact cX a b _ _
def zNj{a:OS}{r:zB×Int}(h:r.2≠10/\r.1.left=0/\r.1.down=false):(WE Q a r).2.2≠10/\(WE Q a r).2.1.left=0/\(WE Q a r).2.1.down=false:=by
 unfold WE;split
 ·exact⟨by simp,h.2.1,h.2.2⟩
 ·rw[AP h.1]
  exact h
def zWv(h:C.left=0)(a:C.down=false)(o:OS)(f:Nat)(l:List zF):(ZK o C f l).2.2≠10/\(ZK o C f l).2.1.left=0/\(ZK o C f l).2.1.down=false:=by
 unfold ZK;rw[AP (by simp[a])];split
 ·refine⟨?_,h,a⟩
  rcases zPL l with e|e|e|e<;>simp[e]
 ·split
  ·exact⟨by simp,h,a⟩
  ·split
   ·exact⟨by simp,h,a⟩
   ·split
    ·exact zNj (cX h a _ _)
    ·split
     ·exact⟨by simp,h,a⟩
     ·exact zNj (zSs h a o f _)
def fP(d:zB)(f:Nat):DU (bZ d) f=DU d f:=rfl
def Z9(d:zB)(f:Nat)(n t:Int):DU (Bq d n t) f=DU d f:=by unfold Bq;split<;>rfl
def zXA{n:Nat}(h:n<4294967296):sI .u64 (n:Int) 32=0:=by have e:sI .u64 (n:Int) ((32:Nat):Int)=((n/2^32:Nat):Int):=cO (by show 32<=64;omega);rw[XZ (by omega)]at e;exact e
def zXN{n:Nat}(h:n<4294967296):uJ .u64 (n:Int) 4294967295=(n:Int):=by
 have e:uJ .u64 (n:Int) ((4294967295:Nat):Int)=((n&&&4294967295:Nat):Int):=by unfold uJ;have:=Nat.and_le_left (n:=n) (m:=4294967295);rw[SA,pR (by show n<2^64;omega),pR (by show 4294967295<2^64;omega),eA (by omega)]
 rw[show(4294967295:Nat)=2^32-1 from O,ou,UB (by omega)]at e;exact e
def mul_one(a:h<4294967296):fD 1 (h:Int)=some (0,(h:Int)):=by unfold fD kW;have b:sI .u64 1 32=0:=zXA (n:=1) (by omega);have c:uJ .u64 1 4294967295=1:=zXN (n:=1) (by omega);have d:sI .u64 0 32=0:=zXA (n:=0) (by omega);have e:uJ .u64 0 4294967295=0:=zXN (n:=0) (by omega);have w0:wrap .u64 0=0:=bY (by omega) (by omega);have f:wrap .u64 (h:Int)=(h:Int):=bY (by omega) (by omega);simp only[b,c,zXA a,zXN a,Int.mul_zero,Int.zero_mul,Int.one_mul,w0,f,d,e,Int.add_zero,Int.zero_add,AA]
def Yk:Int×List Int->Option (wZ (Int×List Int) (List Int)):=
 (λ(a:Int×List Int)=>bif decide (a.1<(a.2.length:Int))then bnd (rO a.2.length a.1 (a.2.length:Int)) λb=>bnd (rO a.2.length 0 a.1) λd=>bnd (Go.Proofs.YtjconpohbhlcmaaGreatDoor.sub a.2 ((Int.toNat 0:Nat):Int) ((Int.toNat 0+d:Nat):Int)) λc=>bnd (aR a.2 (Int.toNat a.1) b c) λe=>some (.next (wrap .i64 (a.1+((min c.length b:Nat):Int)),e))else some (.done a.2))
def zWN(k:h<=1000000)(s:Int×List Int)(c:∃(j m:Nat),s=((j:Int),List.replicate j 255++List.replicate m 0)/\1<=j/\j+m=h):(∃a,Yk s=some (.next a)/\(∃(j m:Nat),a=((j:Int),List.replicate j 255++List.replicate m 0)/\1<=j/\j+m=h)/\(h:Int)-a.1<h-s.1/\a.1<=h)\/∃t,Yk s=some (.done t)/\t=List.replicate h 255:=by
 obtain⟨j,m,rfl,l,d⟩:=c;unfold Yk;have b:(List.replicate j (255:Int)++List.replicate m 0).length=j+m:=by simp
 simp only[b];by_cases e:m=0
 ·right
  subst e;rw[yI (by simp)];refine⟨_,O,?_⟩;rw[<-d];simp
 ·left
  rw[yT (by simp;omega)]
  have f:rO (j+m) (j:Int) ((j+m:Nat):Int)=some m:=by unfold rO;rw[AQ (by omega)];congr 1;omega
  have g:rO (j+m) 0 (j:Int)=some j:=by unfold rO;rw[AQ (by omega)];simp
  rw[f,AA,g,AA]
  have i:Go.Proofs.YtjconpohbhlcmaaGreatDoor.sub (List.replicate j (255:Int)++List.replicate m 0) ((Int.toNat 0:Nat):Int) ((Int.toNat 0+j:Nat):Int)=some (List.replicate j 255):=by rw[show Int.toNat 0=0 from O,dF (by omega) (by rw[b];omega)];simp
  rw[i,AA]
  have e4:aR (List.replicate j (255:Int)++List.replicate m 0) (j:Int).toNat m (List.replicate j 255)=some (List.replicate (j+min j m) 255++List.replicate (m-min j m) 0):=by
   unfold aR;rw[JG,AQ (by rw[b];omega)];congr 1;simp only[PX,wu];rw[RG (by simp),UC,MN (by simp),IU (by simp)];simp only[PX,JI,XL,oh];congr 1
   ·congr 1;omega
   ·congr 1;omega
  rw[e4,AA];refine⟨_,O,⟨j+min j m,m-min j m,?_,by omega,by omega⟩,?_,?_⟩
  ·rw[yF (by simp;omega) (by simp;omega)]
   simp
  ·simp only[PX]
   rw[yF (by omega) (by omega)];omega
  ·simp only[PX]
   rw[yF (by omega) (by omega)];omega
def zVH(v:1<=h)(g:h<=1000000):sP [255] (h:Int)=some (List.replicate h 255):=by
 unfold sP;rw[yI (by simp)];have i:wrap .u64 ((([255]:List Int).length:Nat):Int)=1:=bY (by simp) (by simp);rw[i,eA (by omega),mul_one (by omega),AA];simp only;rw[yI (by simp),xN (by omega)];rw[show decide ((h:Int)>9223372036854775807)=false from by simp;omega,AA,yI O]
 have k:mkS 1 (0:Int) (h:Int) (h:Int)=some (List.replicate h 0):=by unfold mkS;rw[AQ (by omega)];simp
 rw[k,AA]
 have l:aR (List.replicate h (0:Int)) 0 (List.replicate h (0:Int)).length [255]=some (List.replicate 1 255++List.replicate (h-1) 0):=by
  unfold aR;rw[AQ (by simp)];have e:([255]:List Int).take h=[255]:=IU (by simp;omega);have n:min 1 h=1:=by omega
  simp[e,n]
 rw[l,AA]
 have o:((min ([255]:List Int).length (List.replicate h (0:Int)).length:Nat):Int)=((1:Nat):Int):=by simp;omega
 rw[o]
 obtain⟨t,p,q⟩:=zKO (m:=Yk) (λs=>(∃(j m:Nat),s=((j:Int),List.replicate j 255++List.replicate m 0)/\1<=j/\j+m=h)/\s.1<=h) (λs=>((h:Int)-s.1).toNat) (λt=>t=List.replicate h 255) (λs r=>by
  rcases zWN g s r.1 with⟨u,a,b,c,d⟩|f
  ·exact .inl ⟨u,a,⟨b,d⟩,by omega⟩
  ·exact .inr f) (((1:Nat):Int),List.replicate 1 255++List.replicate (h-1) 0) ⟨⟨1,h-1,O,by omega,by omega⟩,by simp;omega⟩
 show bnd (zZ Yk _) _=_;rw[p,q];rfl
def Cb(n m:Nat):zB:=⟨(m:Int),List.replicate (n*m) 255,List.replicate n 0,0,0,0,false⟩
def yBn{n m:Nat}(a:1<=n/\n<=16)(b:64<=m/\m<=1024):eC (n:Int) (m:Int)=some (some (Cb n m),0):=by
 unfold eC;rw[yI (by simp;omega),yI (by simp;omega),yI (by simp;omega),show decide ((m:Int)>1024)=false from by simp;omega,AA,yI O];have d:n*m<=16*1024:=SK a.2 b.2;have f:1*64<=n*m:=SK a.1 b.1;have e:(n:Int)*(m:Int)=((n*m:Nat):Int):=by simp
 rw[e,xN (by omega),zVH (by omega) (by omega),AA]
 have c:mkS 8 (0:Int) (n:Int) (n:Int)=some (List.replicate n 0):=by unfold mkS;rw[AQ (by omega)];simp
 rw[c];rfl
def zUB{n m:Nat}(a:1<=n/\n<=16)(b:64<=m/\m<=1024):JD (Cb n m):=⟨by show 64<=(m:Int)/\(m:Int)<=1024;omega,by show 1<=(List.replicate n (0:Int)).length/\(List.replicate n (0:Int)).length<=16;simpa using a,by show((List.replicate (n*m) (255:Int)).length:Int)=((List.replicate n (0:Int)).length:Int)*(m:Int);simp,EW.rep (by omega),by show(0:Int)<=0/\(0:Int)<=255;omega,by show(0:Int)<=0/\(0:Int)<=9223372036854775807;omega⟩
def zNM(a:V<h):xZ (Cb h D) V=List.replicate D 255:=by unfold xZ Cb;simp only[JG,XL,wu];have:(V+1)*D<=h*D:=SK (by omega) (FN D);rw[FU]at this;congr 1;omega
def zUy(a:5<=h):pB (List.replicate h 255)=none:=by refine Yi ?_;rw[IC,QU,AQ (by omega)];simp
def zIO(b:5<=D)(a:V+1<h):DU (Cb h D) V=os0:=by rw[kE,zNM (by omega),zNM a,zLL (zUy b) (zUy b)]
def Tz(a:h<=1000000000):wrap .i64 ((h:Int)+1)=((h+1:Nat):Int):=by rw[yF (by omega) (by omega)];rfl
def yAc(x y:zF):x=y↔x.Key=y.Key/\x.Delete=y.Delete/\x.Value=y.Value:=by cases x;cases y;simp only[zF.mk.injEq];exact⟨λh=>⟨h.1,h.2.2,h.2.1⟩,λh=>⟨h.1,h.2.2,h.2.1⟩⟩
instance:DecidableEq zF:=λx y=>decidable_of_iff _ (yAc x y).symm
def zXU(b:A.length<=1000000):pH A=some A:=by
 unfold pH;refine xM (λi=>(A.take i,(i:Int))) A.length A O (λi a=>?_) ?_ O
 ·simp only
  rw[yT (by simpa using a),yN a,AA,wF (by simp;omega) (by simp;omega),AA,Tz (by omega),WV a]
 ·simp only
  rw[yI (by simp)];simp
def okV(l:List zF):Prop:=l.length<=1000000/\∀x∈l,x.Value.length<=1000000
def yBZ(b:okV B):Q9 B=some B:=by
 unfold Q9;have:=b.1;refine xM (λi=>(B.take i,(i:Int))) B.length B O (λi a=>?_) ?_ O
 ·simp only
  rw[yT (by simpa using a),yN a,AA,zXU (b.2 _ (DJ a)),AA];have e:(⟨B[i].Key,B[i].Value,B[i].Delete⟩:zF)=B[i]:=rfl;rw[e,wF (by simp;omega) (by simp;omega),AA,Tz (by omega),WV a]
 ·simp only
  rw[yI (by simp)];simp
def zo(c:zF):Bool->List zF->List zF
 |true,r=>r.filter λx=>x.Key !=c.Key|false,[]=>[c]|false,x::r=>if c.Key<x.Key then c::x::r.filter (λx=>x.Key !=c.Key)else if x.Key≠c.Key then x::zo c false r else c::r.filter λx=>x.Key !=c.Key
def Ua(d:List zF)(c:zF):List zF×Bool×Int->Option (wZ (List zF×Bool×Int) (List zF×Bool)):=
 (λ(a:List zF×Bool×Int)=>bif decide (a.2.2<(d.length:Int))then bnd (bnd (bif !a.2.1 then bnd (CO d a.2.2) λf=>some (decide (c.Key<f.Key))else some false:Option Bool) λg=>bif g then bnd (app 40 a.1 [c]) λh=>some (h,true)else some (a.1,a.2.1):Option (List zF×Bool)) λb=>bnd (CO d a.2.2) λe=>bif(e.Key !=c.Key)then bnd (app 40 b.1 [e]) λi=>some (.next (i,b.2,wrap .i64 (a.2.2+1)))else(bif !b.2 then bnd (app 40 b.1 [c]) λj=>some (.next (j,true,wrap .i64 (a.2.2+1)))else some (.next (b.1,b.2,wrap .i64 (a.2.2+1))))else some (.done (a.1,a.2.1)))
def zQa{K:List zF}(w:K.length<=1000000)(c:zF):∀(r:List zF) (i:Nat) (o:List zF) (d:Bool),K.drop i=r->i+r.length=K.length->o.length<=i+1->(d=false->o.length<=i)->∃e h,zZ (Ua K c) (o,d,(i:Int))=some (e,h)/\e.length<=K.length+1/\(if h=true then e else e++[c])=o++zo c d r
 |[],i,o,d,n,p,z,k=>by
  simp only[KC]at p;refine⟨o,d,yV ?_,by omega,?_⟩
  ·unfold Ua
   simp only;rw[yI (by simp;omega)]
  ·cases d<;>simp[zo]
 |x::r,i,o,d,n,p,z,k=>by
  simp only[EP]at p;have s:i<K.length:=by omega
  have A:K[i]=x:=by have:=MW (xs:=K) (i:=i) (j:=0);rw[n]at this;simp only[qp,LH,CJ s]at this;exact(YD this).symm
  have B:K.drop (i+1)=r:=by rw[<-IV,n];rfl
  have b:∀(q:List zF) (y:zF),q.length<=i+2->app 40 q [y]=some (q++[y]):=λq y H=>wF (by simp;omega) (by simp;omega)
  have a:∀t,Ua K c (o,d,(i:Int))=some (.next t)->(∃l m,t=(l,m,((i+1:Nat):Int))/\l.length<=i+2/\(m=false->l.length<=i+1)/\l++zo c m r=o++zo c d (x::r))->∃e h,zZ (Ua K c) (o,d,(i:Int))=some (e,h)/\e.length<=K.length+1/\(if h=true then e else e++[c])=o++zo c d (x::r):=by intro t C ⟨l,m,D,I,u,E⟩;subst D;obtain⟨e,h,F,G,v⟩:=zQa w c r (i+1) l m B (by omega) (by omega) u;exact⟨e,h,xV C F,G,by rw[v,E]⟩
  unfold Ua at a;simp only at a;rw[yT (by simpa using s),yN s,A,Tz (by omega),AA]at a;cases d with
  |true=>
   rw[yI (by rfl),AA,yI O,AA,AA]at a;by_cases f:x.Key=c.Key
   ·rw[yI (by simp[f]),yI (by rfl)]at a
    exact a _ O ⟨o,true,by simp,by omega,by simp,by simp[zo,f]⟩
   ·rw[yT (by simp[f]),b _ _ (by first|omega|(simp only;omega)),AA]at a
    exact a _ O ⟨o++[x],true,by simp,by simp;omega,by simp,by simp[zo,f]⟩
  |false=>
   rw[yT (by rfl),AA]at a;by_cases g:c.Key<x.Key
   ·rw[yT (by simp[g]),b _ _ (by first|omega|(simp only;omega)),AA,AA,AA]at a
    have f:¬x.Key=c.Key:=by omega
    rw[yT (by simp[f]),b _ _ (by simp;omega),AA]at a;have:=k O;exact a _ O ⟨o++[c]++[x],true,by simp,by simp;omega,by simp,by simp[zo,g]⟩
   ·rw[yI (by simp[g]),AA,AA]at a
    by_cases f:x.Key=c.Key
    ·rw[yI (by simp[f]),yT (by rfl),b _ _ (by first|omega|(simp only;omega)),AA]at a
     exact a _ O ⟨o++[c],true,by simp,by simp;omega,by simp,by simp[zo,g,f]⟩
    ·rw[yT (by simp[f]),b _ _ (by first|omega|(simp only;omega)),AA]at a
     exact a _ O ⟨o++[x],false,by simp,by simp;omega,λ_=>by simp;exact k O,by simp[zo,g,f]⟩
def zDc{c:zF}{p:zF->Bool}(h:∀x∈B,p x=true):B.filter p=B:=wz.2 h
def zMO{p:zF->Bool}(h:∀x∈B,p x=false):B.filter p=[]:=WY.2 λx a=>by simp[h x a]
def zRQ{c:zF}:∀{K:List zF},Asc K->zo c false K=(K.filter λx=>decide (x.Key<c.Key))++c::K.filter λx=>decide (c.Key<x.Key)
 |[],_=>rfl|x::r,h=>by
  have hp:=NJ.1 h;unfold zo;by_cases a:c.Key<x.Key
  ·rw[AQ a,NY,NY,AP (by simp;omega),AQ (by simpa using a),zMO (p:=λx=>decide (x.Key<c.Key)) (λy hy=>by have:=hp.1 y hy;simp;omega),zDc (c:=c) (p:=λx=>x.Key !=c.Key) (λy hy=>by have:=hp.1 y hy;simp;omega),zDc (c:=c) (p:=λx=>decide (c.Key<x.Key)) (λy hy=>by have:=hp.1 y hy;simp;omega)]
   rfl
  ·rw[AP a]
   by_cases b:x.Key=c.Key
   ·rw[AP (by simpa using b),NY,NY,AP (by simp;omega),AP (by simpa using a),zMO (p:=λx=>decide (x.Key<c.Key)) (λy hy=>by have:=hp.1 y hy;simp;omega),zDc (c:=c) (p:=λx=>x.Key !=c.Key) (λy hy=>by have:=hp.1 y hy;simp;omega),zDc (c:=c) (p:=λx=>decide (c.Key<x.Key)) (λy hy=>by have:=hp.1 y hy;simp;omega)]
    rfl
   ·rw[AQ b,NY,NY,AQ (by simp;omega),AP (by simpa using a),zRQ hp.2]
    rfl
def zZp(h:Asc B):zo q q.Delete B=NI B q:=by
 unfold NI;cases a:q.Delete
 ·rw[AP (by simp)]
  exact zRQ h
 ·rw[AQ O]
  cases B<;>rfl
def zPE(h:Asc B)(b:B.length<=1000000)(c:zF):nR B c=some (NI B c):=by
 obtain⟨o,d,e,f,a⟩:=zQa b c B 0 [] c.Delete rfl (by simp) (by simp) (by simp);rw[zZp h,JI]at a;unfold nR;show bnd (zZ (Ua B c) _) _=_;rw[show(([],c.Delete,0):List zF×Bool×Int)=([],c.Delete,((0:Nat):Int))from O,e,AA,<-a];cases d
 ·simp only[IK,BD]
  rw[wF (by simp;omega) (by simp;omega)];rfl
 ·rfl
def zPD(K:List zF)(c:zF):(NI K c).length<=K.length+1:=by
 unfold NI;split
 ·have:=OL (λx:zF=>x.Key !=c.Key) K;omega
 ·rw[ER,EP]
  have e:∀L:List zF,(L.filter λx=>decide (x.Key<c.Key)).length+(L.filter λx=>decide (c.Key<x.Key)).length<=L.length:=λL=>by
   induction L with
   |nil=>simp|cons x r b=>
    rw[NY,NY,EP];by_cases a:x.Key<c.Key
    ·rw[AQ (by simpa using a),AP (by simp;omega),EP];omega
    ·rw[AP (by simpa using a)]
     split
     ·rw[EP];omega
     ·omega
  have:=e K;omega
def zRF:∀(l K:List zF),(wS K l).length<=K.length+l.length
 |[],K=>by simp[wS]|c::l,K=>by have a:=zRF l (NI K c);have b:=zPD K c;unfold wS at a⊢;rw[LW,EP];omega
def zVn(a:h<X.length):NI (wS B (X.take h)) X[h]=wS B (X.take (h+1)):=by unfold wS;rw[<-WV a,XT];rfl
def zJg(h:Asc B)(b:B.length+X.length<=1000000):mT B X=some (wS B X):=by
 unfold mT;refine xM (λi=>(wS B (X.take i),(i:Int))) X.length (wS B X) O (λi a=>?_) ?_ O
 ·simp only
  have:=zRF (X.take i) B;rw[DV]at this;rw[yT (by simpa using a),yN a,AA,zPE (Y5 h) (by omega),AA,Tz (by omega),zVn a]
 ·simp only
  rw[yI (by simp),GU]
def zYJ(s:zE)(k:Int)(v:List Int)(d:zB):rX s k v d=yK s [⟨k,v,false⟩] d:=by unfold rX;cases yK s [⟨k,v,false⟩] d<;>rfl
def yBQ(h:xJ E):EW (iz E):=λx a=>by obtain⟨n,b,c⟩:=FM.1 a;have:=h n b;omega
structure ZV(d:zB)(s:zE)(f:Nat):Prop where
 ok:JD d
 size:1024<=d.size
 first:f+1<d.BO.length
 down:d.down=false
 rel:ng s f (DU d f)
def ZV.okK(a:ZV C T h):QM (DU C h).K:=zQb a.ok h
def zIc(h:JD C)(a:C.down=false)(hz:1024<=C.size){f:Nat}(b:f+1<C.BO.length):∃s,vT C (f:Int)=some (C,some s,0)/\ZV C s f:=by obtain⟨s,c,d⟩:=zZu h a hz b;exact⟨s,c,h,hz,b,a,d⟩
structure yCJ(d:zB)(s:zE)(f:Nat)(l:List zF)(r:zE×zB×Int):Prop where
 like:Gp d r.2.1
 val:r.2=(ZK (DU d f) d f l).2
 cases:(r.2.2=0/\ZV r.2.1 r.1 f/\fM l=0/\(DU r.2.1 f).K=wS (DU d f).K l/\(DU r.2.1 f).gen<=(DU d f).gen+1)\/
  ((r.2.2=1\/r.2.2=3\/r.2.2=7)/\r.2.1=d/\ng r.1 f (DU d f))\/
  (r.2.2=10/\r.2.1.down=true/\r.1=Yd/\fM l=0/\((DU r.2.1 f).K=(DU d f).K\/(DU r.2.1 f).K=wS (DU d f).K l)/\(DU r.2.1 f).gen<=(DU d f).gen+1)
 calm:d.left=0->r.2.2≠10/\r.2.1.left=0
 done:fM l=0->(wS (DU d f).K l).length<=32->(DU d f).gen<2147483648->r.2.2=0\/r.2.2=10
def Yl(l:List zF):Prop:=l.length<=1000000/\∀x∈l,0<=x.Key/\x.Key<=255/\EW x.Value
def ZV.upd(a:ZV C T h)(f:Yl B)(g:(wS (DU C h).K B).length<=32->(wS (DU C h).K B).length<=eX:=by exactλa=>JU a (by decide)):∃r,yK T B C=some r/\yCJ C T h B r:=by
 have k:=Yj a.ok a.size a.first;obtain⟨q,l,b⟩:=zWw a.rel k a.ok a.size a.first f.1 f.2 g;have hU:=zXV a.ok a.down a.size a.first rfl f.2;refine⟨_,l,hU.like,O,?_,λm=>?_,λn o p=>zWM a.ok a.down a.size a.first rfl f.2 n o p⟩
 ·rcases hU.cases with⟨c,d,e,i,j,a6⟩|⟨c,d,e⟩|⟨c,d,e,i,j,a6⟩
  ·refine .inl ⟨c,⟨hU.like.ok,by rw[hU.like.size];exact a.size,by rw[hU.like.BO];exact a.first,d,?_⟩,i,j,a6⟩
   rw[e]at b;exact b
  ·refine .inr (.inl ⟨c,e,?_⟩)
   rw[d]at b;exact b
  ·refine .inr (.inr ⟨c,d,?_,i,j,a6⟩)
   rw[e]at b;exact b
 ·have:=zWv m a.down (DU C h) h B
  exact⟨this.1,this.2.1⟩
def Ih(l:List zF):Prop:=(∀x∈l,(0<=x.Key/\x.Key<=255)/\EW x.Value/\x.Value.length<=28/\(x.Delete=true->x.Value=[]))/\l.Pairwise λa b=>a.Key≠b.Key
theorem zNp:∀{l:List zF} {a:List Int},Ih l->(∀x∈l,x.Key∉a)->ni a l=0
 |[],_,_,_=>rfl|x::r,a,h,d=>by
  have e:=h.1 x (by simp);have hp:=NJ.1 h.2;unfold ni
  rw[AP (λc=>by
   rcases c with c|⟨c,b⟩
   ·omega
   ·rw[e.2.2.2 c]at b;simp at b),AP (d x (by simp))]
  refine zNp ⟨λy hy=>h.1 y (by simp[hy]),hp.2⟩ λy hy f=>?_
  grind
def zNi(h:Ih B)(a:B.length<=32):fM B=0:=by unfold fM;rw[AP (by omega)];exact zNp h λx _ h=>by cases h
def Ih.Yl{l:List zF}(h:Ih l)(b:l.length<=1000000):Yl l:=⟨b,λx a=>⟨(h.1 x a).1.1,(h.1 x a).1.2,(h.1 x a).2.1⟩⟩
def ZV.arm(a:ZV C T h){t:Int}(b:M<=9223372036854775807)(c:0<=t/\t<=255):ZV (Bq C M t) T h:=by
 have e:Bq C M t=⟨C.size,C.bytes,C.BO,C.steps,max M 0,t,C.down⟩:=by unfold Bq;rw[AP (by simp[a.down])]
 refine⟨yAl a.ok b c,?_,?_,?_,?_⟩
 ·rw[e];exact a.size
 ·rw[e];exact a.first
 ·rw[e];exact a.down
 ·rw[Z9];exact a.rel
structure Cut(d:zB)(f:Nat)(l:List zF)(r:zE×zB×Int)(t:zE):Prop where
 err:r.2.2=0/\r.2.1.down=false/\ZV r.2.1 r.1 f\/r.2.2=10/\r.2.1.down=true/\r.1=Yd
 open_:vT (bZ r.2.1) (f:Int)=some (bZ r.2.1,some t,0)
 TB:ZV (bZ r.2.1) t f
 list:(DU (bZ r.2.1) f).K=wS (DU d f).K l\/r.2.2=10/\(DU (bZ r.2.1) f).K=(DU d f).K
 gen:(DU (bZ r.2.1) f).gen<=(DU d f).gen+1
 size:r.2.1.size=d.size
 BO:r.2.1.BO.length=d.BO.length
 val:r.2=(ZK (DU d f) d f l).2
theorem ZV.cut(a:ZV C T h)(i:Ih B)(e:B.length<=32)(o:(wS (DU C h).K B).length<=32)(p:(DU C h).gen<2147483648)(g:(wS (DU C h).K B).length<=32->(wS (DU C h).K B).length<=eX:=by exactλa=>JU a (by decide)):∃r,yK T B C=some r/\∃t,Cut C h B r t:=by
 obtain⟨r,q,b⟩:=a.upd (i.Yl (by omega)) g;refine⟨r,q,?_⟩;have ok:=b.like.ok;obtain⟨t,j,k⟩:=zIc (zKn ok) rfl (by show 1024<=r.2.1.size;rw[b.like.size];exact a.size) (f:=h) (by show h+1<r.2.1.BO.length;rw[b.like.BO];exact a.first);have s:=b.done (zNi i e) o p;refine⟨t,?_⟩;rcases b.cases with⟨c,d,l,m,n⟩|⟨c,_⟩|⟨c,d,l,m,n,a6⟩
 ·exact⟨.inl ⟨c,d.down,d⟩,j,k,.inl (by rw[fP];exact m),by rw[fP];exact n,b.like.size,b.like.BO,b.val⟩
 ·omega
 ·refine⟨.inr ⟨c,d,l⟩,j,k,?_,by rw[fP];exact a6,b.like.size,b.like.BO,b.val⟩
  rw[fP]
  grind
def ZV.sure(a:ZV C T h)(g:C.left=0)(f:Ih B)(c:B.length<=32)(i:(wS (DU C h).K B).length<=32)(j:(DU C h).gen<2147483648)(d:(wS (DU C h).K B).length<=32->(wS (DU C h).K B).length<=eX:=by exactλa=>JU a (by decide)):∃r,yK T B C=some r/\r.2.2=0/\ZV r.2.1 r.1 h/\(DU r.2.1 h).K=wS (DU C h).K B/\(DU r.2.1 h).gen<=(DU C h).gen+1/\Gp C r.2.1/\r.2.1.left=0:=by
 obtain⟨r,k,b⟩:=a.upd (f.Yl (by omega)) d;have p:=b.done (zNi f c) i j;have l:=b.calm g;rcases b.cases with⟨e,m,q,n,o⟩|⟨e,_⟩|⟨e,_⟩
 ·exact⟨r,k,e,m,n,o,b.like,l.2⟩
 ·omega
 ·omega
structure zq(d:zA):Prop where
 vd:VD d
 sm:vQ d
 run:d.Running=d.Active
 tr:d.CX=false
def Two(d:zA):Prop:=zq d/\qK (pC d.Slots (1-d.Active)) d.Name=true
def cF(d:zA):zA:=⟨d.Name,d.Slots,1-d.Active,1-d.Active,false⟩
def WL(d:zA):zA:=⟨d.Name,d.Slots,d.Active,1-d.Active,false⟩
variable{S:zA}
def zNY(h:zq S):cF (cF S)=S:=by obtain⟨_,_,a,b⟩:=h;obtain⟨nm,sl,c,d,e⟩:=S;simp only at a b;subst a;subst b;simp only[cF,zA.mk.injEq,true_and,and_true];omega
def zLI(h:Two S):Two (cF S):=by
 obtain⟨⟨v,s,b,c⟩,a⟩:=h;have e:1-(1-S.Active)=S.Active:=by omega
 exact⟨⟨⟨uD v.ba,uD v.ba,a,a,λh=>by cases h⟩,s,rfl,rfl⟩,by show qK (pC S.Slots (1-(1-S.Active))) S.Name=true;rw[e];exact v.ga⟩
def zDm(h:Two S):Sj S=(⟨S.Name,S.Slots,S.Active,S.Running,true⟩,0):=by obtain⟨⟨v,s,a,b⟩,c⟩:=h;unfold Sj;rw[W9 v a b,show((0:Int) !=0)=false from O,BB,a,c,BD]
def cW(h:Two S):dL ⟨S.Name,S.Slots,S.Active,S.Running,true⟩=WL S:=by obtain⟨⟨v,s,a,d⟩,b⟩:=h;have c:qO ⟨S.Name,S.Slots,S.Active,S.Running,true⟩=true:=(rN _).2 ⟨v.ba,v.br,v.ga,v.gr,λ_=>⟨a,b⟩⟩;unfold dL;rw[c,BD];rfl
def zYK(h:Two S):VD (WL S):=⟨h.1.vd.ba,uD h.1.vd.ba,h.1.vd.ga,h.2,λh=>by cases h⟩
def zRt(h:Two S):dL (WL S)=S:=by unfold dL;rw[(rN _).2 (zYK h),BD];obtain⟨⟨v,s,a,b⟩,c⟩:=h;obtain⟨nm,sl,d,e,f⟩:=S;simp only at a b;subst a;subst b;rfl
def zEB(h:Two S):Sm (WL S)=(cF S,0):=by unfold Sm;rw[(rN _).2 (zYK h),BD];rfl
def NH(L:List zA)(a:List Nat)(c:Nat):List zA:=L.mapIdx λi d=>if i∈a.take c then cF d else d
@[simp] def LK(L:List zA)(a:List Nat)(c:Nat):(NH L a c).length=L.length:=by simp[NH]
def cZ(L:List zA)(a:List Nat)(c i:Nat):(NH L a c)[i]?=L[i]?.map λd=>if i∈a.take c then cF d else d:=by simp[NH,XG]
def zGZ(L:List zA)(a:List Nat):NH L a 0=L:=by apply FW;intro i;rw[cZ];simp
def wT(a:E.Nodup)(e:h<E.length)(c:Nat):E[h]∈E.take c↔h<c:=by
 constructor
 ·intro f
  obtain⟨i,g,d⟩:=IZ.1 f;rw[RX]at d;rw[DV]at g;have hp:=TS.1 a;rcases Nat.lt_trichotomy i h with b|b|b
  ·exact absurd d (hp i h _ e b)
  ·omega
  ·exact absurd d.symm (hp h i e _ b)
 ·intro j
  refine IZ.2 ⟨h,by rw[DV];omega,?_⟩;rw[RX]
variable{J:List zA}
def zRB(a:E.Nodup)(d:h<E.length)(e:J[E[h]]?=some S):(NH J E h).set E[h] (cF S)=NH J E (h+1):=by
 apply FW;intro i;rw[KR,cZ,cZ,LK];have b:E[h]<J.length:=(FT.1 e).1;have f:E.take (h+1)=E.take h++[E[h]]:=xA d;by_cases c:E[h]=i
 ·subst c
  rw[AQ O,AQ b,e,DR,AQ ((wT a d _).2 (by omega))]
 ·rw[AP c]
  have:(i∈E.take (h+1))↔i∈E.take h:=by
   rw[f,DW,FI];constructor
   ·rintro(a|a)
    ·exact a
    ·exact absurd a.symm c
   ·exact .inl
  simp only[this]
def zSi(a:E.Nodup)(d:h<E.length)(e:J[E[h]]?=some S):(NH J E (h+1)).set E[h] S=NH J E h:=by
 apply FW;intro i;rw[KR,cZ,cZ,LK];have b:E[h]<J.length:=(FT.1 e).1;have f:E.take (h+1)=E.take h++[E[h]]:=xA d;by_cases c:E[h]=i
 ·subst c
  rw[AQ O,AQ b,e,DR,AP (λg=>absurd ((wT a d _).1 g) (by omega))]
 ·rw[AP c]
  have:(i∈E.take (h+1))↔i∈E.take h:=by
   rw[f,DW,FI];constructor
   ·rintro(a|a)
    ·exact a
    ·exact absurd a.symm c
   ·exact .inl
  simp only[this]
structure nN(L:List zA)(Od:List Nat)(m:Nat):Prop where
 nd:Od.Nodup
 le:L.length<=8
 mem:∀i∈Od,∃d,L[i]?=some d/\Two d
 bits:∀(i:Nat) d,L[i]?=some d->d.Active=if m.testBit i=true then 1 else 0
 small:m<256
 je:∀d∈L,zq d
 len:Od.length<=8
def nN.lt(a:nN J E h)(b:D∈E):D<J.length:=by obtain⟨d,c,_⟩:=a.mem D b;exact(FT.1 c).1
def WM:yA:=⟨0,0,[],[]⟩
def KG(L:List zA)(N:List zY)(a:List Nat)(m c:Nat)(b:Int):zD:=⟨true,NH L a c,N,b,WM,(m:Int),iz a⟩
def agE(L:List zA)(N:List zY)(a:List Nat)(m c:Nat):zD:=⟨true,NH L a c,N,0,WM,(m:Int),[]⟩
def zSR{a:zD}{m:Nat}{d:zA}(b:a.devices[h]?=some d)(c:a.before=(m:Int))(e:m<256)(f:h<=8):wC a (h:Int)=some (d.Active !=if m.testBit h=true then 1 else 0):=by
 unfold wC;rw[IA,b,AA,c,O4 (by exact f),AA];have g:m/2^h<256:=NK (MF _ _) e;rw[show(1:Int)=((1:Nat):Int)from O,O3 g (by decide),zOC];split
 ·rfl
 ·rfl
def zCN{N:List zY}(a:nN J E h)(c:Nat)(i:Int)(e:D∈E):wC (KG J N E h c i) (D:Int)=some (decide (D∈E.take c)):=by
 obtain⟨d,f,l⟩:=a.mem D e;have j:=a.lt e;have k:=a.le;rw[zSR (d:=if D∈E.take c then cF d else d) (m:=h) (by show(NH J E c)[D]?=_;rw[cZ,f];rfl) O a.small (by omega)];have g:=a.bits D d f;congr 1;by_cases b:D∈E.take c
 ·rw[AQ b,BK b]
  show((1-d.Active) !=_)=true;rw[g];cases h.testBit D<;>rfl
 ·rw[AP b,BV b,g]
  simp
def yBK(b:List Nat)(k:b.length<=1000)(c:Nat)(m:Int->Option (wZ Int (Int⊕Unit)))(e:∀j,j<b.length->m (j:Int)=some (bif decide (c<=j)then .done (.inl (j:Int))else .next (wrap .i64 ((j:Int)+1))))(g:m (b.length:Int)=some (.done (.inr ()))):bnd (zZ m 0) (λh=>xX h λ_=>some (-1))=some (if c<b.length then(c:Int)else-1):=by
 by_cases f:c<b.length
 ·rw[AQ f]
  refine yL (a:=.inl (c:Int)) ?_ O;refine rF (λi=>(i:Int)) c (λi d=>?_) ?_
  ·rw[e i (by omega),BV (by omega),BB,zV d (by omega)]
  ·rw[e c f,BK (by omega),BD]
 ·rw[AP f]
  refine xM (λi=>(i:Int)) b.length (.inr ()) O (λi d=>?_) g O;rw[e i d,BV (by omega),BB,zV d (by omega)]
def yBA(b:List Nat)(k:b.length<=1000)(c:Nat)(l:c<=b.length)(m:Int->Option (wZ Int (Int⊕Unit)))(e:∀j,j<b.length->m (j:Int)=some (bif decide (j<c)then .done (.inl (j:Int))else .next (wrap .i64 ((j:Int)+1))))(g:m (b.length:Int)=some (.done (.inr ()))):bnd (zZ m 0) (λh=>xX h λ_=>some (-1))=some (if 0<c then 0 else-1):=by
 by_cases d:0<c
 ·rw[AQ d]
  refine yL (a:=.inl 0) ?_ O;refine yV ?_;have:=e 0 (by omega);rw[BK d,BD]at this;exact this
 ·rw[AP d]
  refine xM (λi=>(i:Int)) b.length (.inr ()) O (λi f=>?_) g O;rw[e i f,BV (by omega),BB,zV f (by omega)]
variable{Y:List zY}
def zKC(a:nN J E h)(c:Nat)(d:Int):xW (iz E) (KG J Y E h c d)=some (if c<E.length then(c:Int)else-1):=by
 unfold xW;have g:=a.len;refine yBK E (by omega) c _ (λj b=>?_) ?_
 ·rw[ES,BK (by omega:(j:Int)<(E.length:Int)),BD,iV b,AA]
  unfold nV;rw[zCN a c d (DJ b),AA,AA];by_cases e:c<=j
  ·rw[BK e,BV (λf=>absurd ((wT a.nd b c).1 f) (by omega))];rfl
  ·rw[BV e,BK ((wT a.nd b c).2 (by omega))];rfl
 ·rw[ES,BV (by omega:¬(E.length:Int)<(E.length:Int))];rfl
def yAx(a:nN J E h)(c:Nat)(d:Int):wP (iz E) (KG J Y E h c d)=some (decide (c<E.length)):=by
 unfold wP;rw[zKC a,AA];congr 1;split
 ·rename_i b;rw[BK b,BK (by omega)]
 ·rename_i b;rw[BV b];rfl
def zUO(a:nN J E h)(b:D<=E.length)(e:Int):xU (iz E) (KG J Y E h D e)=some (decide (0<D)):=by
 unfold xU sR;have g:=a.len;refine yL (yBA E (by omega) D b _ (λj c=>?_) ?_) ?_
 ·rw[ES,BK (by omega:(j:Int)<(E.length:Int)),BD,iV c,AA,zCN a D e (DJ c),AA]
  by_cases b:j<D
  ·rw[BK b,BK ((wT a.nd c D).2 b)];rfl
  ·rw[BV b,BV (λf=>absurd ((wT a.nd c D).1 f) b)];rfl
 ·rw[ES,BV (by omega:¬(E.length:Int)<(E.length:Int))];rfl
 ·congr 1
  split
  ·rename_i d;rw[BK d];rfl
  ·rename_i d;rw[BV d];rfl
def zu(b:List zA)(c:List zY)(d:List Nat)(e f:Nat)(g:Int)(h:zE)(i:zB):Option (zD×zE×zB×Int):=
 bnd (yK h [⟨32,[],true⟩] i) λa=>if a.2.2=0 then some (agE b c d e f,a.1,a.2.1,0)else some (KG b c d e f g,a.1,a.2.1,a.2.2)
def zTo(L:List zA)(N:List zY)(b:List Nat)(m c:Nat)(e:Int)(s:zE)(d:zB):tR (KG L N b m c e) s d=zu L N b m c e s d:=by
 unfold tR zu mL;show bnd (vZ true) _=_;have:vZ true=some true:=rfl;rw[this,AA];cases yK s [⟨32,[],true⟩] d with
 |none=>rfl|some r=>
  simp only[AA];by_cases a:r.2.2=0
  ·rw[AQ a,yI (by simpa using a)];rfl
  ·rw[AP a,yT (by simpa using a)]
def zUk(x:Option (zD×zE×zB×Int)):(bnd x λa=>some (a.1,a.2.1,a.2.2.1,a.2.2.2))=x:=by cases x<;>rfl
def zUH(a:nN J E h)(c:Nat)(s:zE)(d:zB):xP (KG J Y E h c 2) s d=if c<E.length then some (KG J Y E h c 2,s,d,0)else zu J Y E h c 2 s d:=by
 unfold xP;rw[show((KG J Y E h c 2).phase==3)=false from O,BB];show bnd (wP (iz E) _) _=_;rw[yAx a,AA,zTo,zUk];split
 ·rename_i b;rw[BK b,BD]
 ·rename_i b;rw[BV b,BB]
def zUd(a:nN J E h)(b:D<=E.length)(s:zE)(d:zB):xP (KG J Y E h D 3) s d=if 0<D then some (KG J Y E h D 3,s,d,0)else zu J Y E h D 3 s d:=by
 unfold xP;rw[show((KG J Y E h D 3).phase==3)=true from O,BD];show bnd (xU (iz E) _) _=_;rw[zUO a b,AA,zTo,zUk];split
 ·rename_i b;rw[BK b,BD]
 ·rename_i b;rw[BV b,BB]
def zKL{a:zD}{Od:List Nat}(c:a.order=iz Od)(e:Od.length<=8)(d:∀i∈Od,i<8)(hp:h<256):uN a (h:Int)=some ((h:Int)::a.before::iz Od):=by
 unfold uN;rw[c,dQ hp];refine xM (λi=>((h:Int)::a.before::(iz Od).take i,(i:Int))) Od.length ((h:Int)::a.before::iz Od) O (λi b=>?_) ?_ O
 ·simp only
  rw[ES,BK (by omega:(i:Int)<(Od.length:Int)),BD,iV b,AA,dQ (by have:=d _ (DJ b);omega),wF (by simp;omega) (by simp;omega),AA,zV b (by omega),xA (l:=iz Od) (by simpa using b)];simp[iz]
 ·simp only
  rw[ES,BV (by omega:¬(Od.length:Int)<(Od.length:Int)),BB,<-ES Od,GU]
def yAg{N:List zY}(a:nN J E h)(n:D<E.length)(d:Int×Int->Option (wZ (Int×Int) Int))(f:∀s j,j<E.length->d (s,(j:Int))=bnd (CO (iz E) (j:Int)) λe=>bnd (wC (KG J N E h (D+1) 3) e) λg=>bif g then some (.next (e,wrap .i64 ((j:Int)+1)))else some (.next (s,wrap .i64 ((j:Int)+1))))(k:∀s,d (s,(E.length:Int))=some (.done s)):zZ d (0,0)=some ((E[D]:Nat):Int):=by
 have o:=a.len;have:=rF (m:=d) (t:=((E[D]:Nat):Int)) (λi=>(if i=0 then(0:Int)else((E[min (i-1) D]'(by omega):Nat):Int),(i:Int))) E.length (λi b=>?_) ?_
 ·exact this
 ·rw[f _ i b,iV b,AA,zCN a (D+1) 3 (DJ b),AA,zV b (by omega)]
  by_cases c:i<D+1
  ·rw[BK ((wT a.nd b _).2 c),BD]
   simp only[xg,EI,PZ,show min i D=i by omega]
  ·rw[BV (λl=>c ((wT a.nd b _).1 l)),BB]
   simp only[xg,EI,PZ,show min i D=D by omega,AP (show¬i=0 by omega),show min (i-1) D=D by omega]
 ·rw[k]
  simp only[AP (show¬E.length=0 by omega),show min (E.length-1) D=D by omega]
def Ey(k:Nat)(r:zD×zE×zB×Int):zD×zE×zB×Int×Int:=(r.1,r.2.1,r.2.2.1,if r.2.2.2=0 then(k:Int)else 0,r.2.2.2)
def zTx(k:Nat)(x:Option (zD×zE×zB×Int)):(bnd x λa=>bif(a.2.2.2 !=0)then some (a.1,a.2.1,a.2.2.1,(0:Int),a.2.2.2)else some (a.1,a.2.1,a.2.2.1,(k:Int),0))=bnd x λr=>some (Ey k r):=by
 cases x with
 |none=>rfl|some r=>
  simp only[AA,Ey];by_cases b:r.2.2.2=0
  ·rw[yI (by simpa using b),AQ b,b]
  ·rw[yT (by simpa using b),AP b]
def zOo{N:List zY}(a:nN J E h)(b:D<E.length)(e:Nat)(f:Int):∃d,J[E[D]]?=some d/\Two d/\CO (KG J N E h e f).devices (E[D]:Int)=some (if D<e then cF d else d):=by obtain⟨d,c,g⟩:=a.mem _ (DJ b);refine⟨d,c,g,?_⟩;show CO (NH J E e) _=_;rw[IA,cZ,c,DR];simp only[wT a.nd b]
def zXg{N:List zY}(a:nN J E h)(c:D<E.length)(s:zE)(d:zB):xK (KG J N E h D 2) true s d=if D+1<E.length then some (KG J N E h (D+1) 2,s,d,(E[D]:Int),0)else bnd (zu J N E h (D+1) 2 s d) λr=>some (Ey E[D] r):=by
 obtain⟨d0,g,b,f⟩:=zOo (N:=N) a c D 2;rw[AP (by omega)]at f;have e:=a.lt (DJ c)
 have key:vJ (KG J N E h D 2) true s d=bnd (xP (KG J N E h (D+1) 2) s d) λr=>some (Ey E[D] r):=by
  unfold vJ;show bnd (xW (iz E) _) _=_;rw[zKC a,AA,AQ c];show bnd (CO (iz E) (D:Int)) _=_;rw[iV c,AA,f,AA,zEp b.1.sm,AA,zDm b];simp only[JR,BB];rw[Sr (d:=⟨d0.Name,d0.Slots,d0.Active,d0.Running,true⟩) b.1.sm,AA,cW b];simp only[BD];rw[zHd (d:=WL d0) b.1.sm,AA,zEB b];simp only[JR,BB,AA]
  have i:uF (KG J N E h D 2).devices (E[D]:Int) (cF d0)=some (NH J E (D+1)):=by show uF (NH J E D) _ _=_;rw[uS (by simpa using e),zRB a.nd c g]
  rw[i,AA];exact zTx _ _
 unfold xK;rw[show(!((KG J N E h D 2).phase==2||((KG J N E h D 2).phase==3||false)))=false from O,BB,show((KG J N E h D 2).phase==2)=true from O,BD,key,zUH a];split
 ·simp[Ey]
 ·cases zu J N E h (D+1) 2 s d with
  |none=>rfl|some r=>simp
def zZJ{N:List zY}(a:nN J E h)(b:D<E.length)(s:zE)(d:zB):xK (KG J N E h D 2) false s d=if D=0 then bnd (zu J N E h 0 2 s d) λr=>some (Ey E[D] r)else bnd (yK s [⟨32,3::(h:Int)::iz E,false⟩] d) λr=>if r.2.2=0 then some (KG J N E h D 3,r.1,r.2.1,(E[D]:Int),0)else some (KG J N E h D 2,r.1,r.2.1,0,r.2.2):=by
 obtain⟨d0,n,c,l⟩:=zOo (N:=N) a b D 2;rw[AP (by omega)]at l;have e:=a.lt (DJ b)
 have key:vJ (KG J N E h D 2) false s d=if D=0 then bnd (zu J N E h 0 2 s d) λr=>some (Ey E[D] r)
   else bnd (yK s [⟨32,3::(h:Int)::iz E,false⟩] d) λr=>if r.2.2=0 then some (KG J N E h D 3,r.1,r.2.1,(E[D]:Int),0)else some (KG J N E h D 2,r.1,r.2.1,0,r.2.2):=by
  unfold vJ;show bnd (xW (iz E) _) _=_;rw[zKC a,AA,AQ b];show bnd (CO (iz E) (D:Int)) _=_;rw[iV b,AA,l,AA,zEp c.1.sm,AA,zDm c];simp only[JR,BB];rw[Sr (d:=⟨d0.Name,d0.Slots,d0.Active,d0.Running,true⟩) c.1.sm,AA,cW c];rw[Sr (d:=WL d0) c.1.sm,AA,zRt c,AA]
  have o:uF (KG J N E h D 2).devices (E[D]:Int) d0=some (NH J E D):=by
   show uF (NH J E D) _ _=_;rw[uS (by simpa using e)];congr 1;apply FW;intro i;rw[KR];split
   ·rename_i j
    subst j;rw[cZ,n,DR,AP (λp=>absurd ((wT a.nd b D).1 p) (by omega)),AQ (by simpa using e)]
   ·rfl
  rw[o,AA];show bnd (xU (iz E) (KG J N E h D 2)) _=_;rw[zUO a (Nat.le_of_lt b),AA];by_cases m:D=0
  ·subst m
   rw[BV (by omega),IK,BD,AQ O];show bnd (tR (KG J N E h 0 2) s d) _=_;rw[zTo];exact zTx _ _
  ·rw[BK (by omega),EG,BB,AP m]
   show bnd (uN (KG J N E h D 2) ((3:Nat):Int)) _=_;rw[zKL (Od:=E) O a.len (λi j=>by have:=a.lt j;have:=a.le;omega) (by decide),AA];show bnd (vZ true) _=_;rw[show vZ true=some true from O,AA,zYJ];show bnd (yK s [⟨32,3::(h:Int)::iz E,false⟩] d) _=_;cases yK s [⟨32,3::(h:Int)::iz E,false⟩] d with
   |none=>rfl|some r=>
    simp only[AA];by_cases g:r.2.2=0
    ·rw[AQ g,yI (by simpa using g)];rfl
    ·rw[AP g,yT (by simpa using g)];rfl
 unfold xK;rw[show(!((KG J N E h D 2).phase==2||((KG J N E h D 2).phase==3||false)))=false from O,BB,show((KG J N E h D 2).phase==2)=true from O,BD,key];have k:∀(x:Option (zD×zE×zB×Int×Int)),(bnd x λf=>some (f.1,f.2.1,f.2.2.1,f.2.2.2.1,f.2.2.2.2))=x:=λx=>by cases x<;>rfl
 exact k _
def zYE{N:List zY}(a:nN J E h){c:Nat}(e:c<E.length)(g:Bool)(s:zE)(d:zB):xK (KG J N E h (c+1) 3) g s d=if 0<c then some (KG J N E h c 3,s,d,(E[c]:Int),0)else bnd (zu J N E h c 3 s d) λr=>some (Ey E[c] r):=by
 obtain⟨d0,l,i,k⟩:=zOo (N:=N) a e (c+1) 3;rw[AQ (by omega)]at k;have b:=zLI i;have f:=a.lt (DJ e)
 have key:qL (KG J N E h (c+1) 3) g s d=bnd (xP (KG J N E h c 3) s d) λr=>some (Ey E[c] r):=by
  unfold qL;refine yL (yAg (N:=N) a e _ (λq j n=>?_) (λq=>?_)) ?_
  ·simp only
   rw[show(KG J N E h (c+1) 3).order=iz E from O,ES,BK (by omega:(j:Int)<(E.length:Int)),BD]
  ·simp only
   rw[show(KG J N E h (c+1) 3).order=iz E from O,ES,BV (by omega:¬(E.length:Int)<(E.length:Int)),BB]
  rw[k,AA,zEp b.1.sm,AA,zDm b];simp only[JR,BB];rw[Sr (d:=⟨(cF d0).Name,(cF d0).Slots,(cF d0).Active,(cF d0).Running,true⟩) b.1.sm,AA,cW b,zHd (d:=WL (cF d0)) b.1.sm,AA,zEB b,zNY i.1];simp only[JR,BB,AA]
  have m:uF (KG J N E h (c+1) 3).devices (E[c]:Int) d0=some (NH J E c):=by show uF (NH J E (c+1)) _ _=_;rw[uS (by simpa using f),zSi a.nd e l]
  rw[m,AA];exact zTx _ _
 unfold xK;rw[show(!((KG J N E h (c+1) 3).phase==2||((KG J N E h (c+1) 3).phase==3||false)))=false from O,BB,show((KG J N E h (c+1) 3).phase==2)=false from O,BB,show((KG J N E h (c+1) 3).phase==3)=true from O,BD,key,zUd a (Nat.le_of_lt e)];split
 ·simp[Ey]
 ·cases zu J N E h c 3 s d with
  |none=>rfl|some r=>simp
def zYo{a:zD}(h:a.phase=0\/a.phase=1)(g:Bool)(s:zE)(d:zB):xK a g s d=some (a,s,d,0,46):=by unfold xK;rcases h with h|h<;>rw[h]<;>rfl
def wY(L:List zA):List zR:=L.map λd=>⟨d.Name,qW d⟩
def zZN{a:zD}(h:a.devices.length<=1000):wU a=some (wY a.devices):=by
 unfold wU
 have c:mkS 40 (⟨⟨#[]⟩,(⟨0,0,0⟩:zS)⟩:zR) 0 (a.devices.length:Int)=some []:=by unfold mkS;rw[AQ ⟨by omega,by omega,by omega,by omega⟩];rfl
 rw[c,AA];refine xM (λi=>((wY a.devices).take i,(i:Int))) a.devices.length (wY a.devices) O (λi b=>?_) ?_ O
 ·simp only
  rw[BK (by omega:(i:Int)<(a.devices.length:Int)),BD,yN b,AA,zHS,AA,wF (by simp[wY];omega) (by simp[wY];omega),AA,zV b (by omega),xA (l:=wY a.devices) (by simpa[wY]using b)];simp[wY]
 ·simp only
  rw[BV (by omega:¬(a.devices.length:Int)<(a.devices.length:Int)),BB,IU (by simp[wY])]
def zSP(h:vQ S):qV S=some S:=by unfold qV;have a:=h.1;have b:=h.2;unfold small at a b;rw[gE (by omega),AA,gE (by omega),AA]
def zGX:∀(x y:List UInt8),(Op.bytesLess x y||(x==y))=!Op.bytesLess y x
 |[],[]=>rfl|[],_::_=>rfl|_::_,[]=>rfl|a::x,b::y=>by
  have d:=zGX x y;simp only[Op.bytesLess,List.cons_beq_cons];by_cases h:a=b
  ·subst h
   have:¬a<a:=UInt8.lt_irrefl a;simp[this];simpa using d
  ·have f:(a==b)=false:=by simpa using h
   have i:(b==a)=false:=by simpa usingλe=>h e.symm
   rw[f,i];simp only[Bool.false_and,UN];by_cases c:a<b
   ·have:¬b<a:=UInt8.lt_asymm c
    simp[c,this]
   ·have:b<a:=by
     rcases ul h with g|g
     ·exact absurd g c
     ·exact g
    simp[c,this]
def fY(n:zY):Bool:=qY n.DX&&(qY n.On&&(!decide (n.DX=n.On)&&(UZ n.From&&UZ n.At)))
def tH(l:List zY):Bool:=decide (l.length<=16)&&l.all fY
def zKr(l:List zY)(m:Int->Option (wZ Int (Bool⊕Unit)))(b:∀i (h:i<l.length),m (i:Int)=some (bif !fY l[i]then .done (.inl false)else .next (wrap .i64 ((i:Int)+1))))(c:m (l.length:Int)=some (.done (.inr ())))(e:l.length<=1000000):bnd (zZ m 0) (λd=>xX d λ_=>some true)=some (l.all fY):=by
 refine uA (λi=>(i:Int)) l.length (λi=>!((l[i]?.map fY).getD true)) (.inl false) (.inr ()) O (λi a=>?_) c ?_
 ·rw[b i a,CJ a,zV a (by omega)]
  rfl
 ·have:(List.range l.length).any (λi=>!((l[i]?.map fY).getD true))=!l.all fY:=by rw[List.all_eq_not_any_not];simp only[Bool.not_not];exact Wv l (λx=>!fY x) _ λi h=>by simp[h]
  rw[this];cases l.all fY<;>rfl
def zTl(l:List zY):oS l=some (tH l):=by
 unfold oS tH;by_cases h:l.length<=16
 ·rw[show decide ((l.length:Int)>16)=false from BV (by omega),BB,BK h,GL]
  refine zKr l _ (λi a=>?_) ?_ (by omega)
  ·rw[show decide ((i:Int)<(l.length:Int))=true from BK (by omega),BD]
   refine yL (yN a) ?_;generalize l[i]=n;unfold fY;simp only[zIi,zQo,AA,gV];cases qY n.DX<;>cases qY n.On<;>cases decide (n.DX=n.On)<;>cases UZ n.From<;>cases UZ n.At<;>rfl
  ·simp
 ·rw[show decide ((l.length:Int)>16)=true from BK (by omega),BV h]
  rfl
def zNO(l:List zY):pP l=some (tH l):=by
 unfold pP tH;by_cases h:l.length<=16
 ·rw[show decide ((l.length:Int)>16)=false from BV (by omega),BB,BK h,GL]
  refine zKr l _ (λi a=>?_) ?_ (by omega)
  ·rw[show decide ((i:Int)<(l.length:Int))=true from BK (by omega),BD,yN a]
   generalize l[i]=n;unfold fY;simp only[zLr,zUz,AA,gV];cases qY n.DX<;>cases qY n.On<;>cases decide (n.DX=n.On)<;>cases UZ n.From<;>cases UZ n.At<;>rfl
  ·simp
 ·rw[show decide ((l.length:Int)>16)=true from BK (by omega),BV h]
  rfl
def zIN(l:List zY):wV [] l=some (if tH l=true then(-1,0)else(0,2)):=by
 unfold wV
 have f:sA []=some true:=by unfold sA;refine xM (λi=>(i:Int)) 0 (.inr ()) O (λi a=>by omega) O O
 rw[f,AA,zTl,AA];cases c:tH l
 ·rfl
 ·simp only[EG,BB,FO]
  have d:l.length<=16:=by simp only[tH,GX,FP]at c;exact c.1
  refine xM (λi=>(i:Int)) l.length (.inr ()) O (λi a=>?_) (by simp) O;rw[show decide ((i:Int)<(l.length:Int))=true from BK (by omega),BD];refine yL (yN a) ?_
  have g:∀n,kD [] n=some true:=λn=>by
   unfold kD mO
   have:∀(s:ByteArray),(bnd (zZ (τ:=(zS×Bool)⊕Unit) (λ(b:Int)=>bif decide (b<(([]:List zR).length:Int))then bnd (CO ([]:List zR) b) λe=>bif(e.Name.toList==s.toList)then some (.done (.inl (e.Version,true)))else(some (.next (wrap .i64 (b+1))))else some (.done (.inr ()))) 0) λh=>xX h λj=>some ((⟨0,0,0⟩:zS),false))=some (⟨0,0,0⟩,false):=λs=>
    xM (λi=>(i:Int)) 0 (.inr ()) O (λi a=>by omega) O O
   rw[this];rfl
  rw[g,AA,zV a (by omega)];rfl
def dX(l:List zO)(i:Nat):Option Int:=
 match l[i]?with
 |none=>none|some x=>if vU x=false then some 1 else if i>0/\(Op.bytesLess ((l[i-1]?.map zO.Name).getD ⟨#[]⟩).toList x.Name.toList)=false then some 7 else none
def tG(b:yM):Int:=
 if b.BA.length<1\/8<b.BA.length then 2
 else match(List.range b.BA.length).findSome? (dX b.BA)with
  |some e=>e|none=>if 16<b.Needs.length then 3 else if tH b.Needs=true then 0 else 1
def zKJ(b:yM)(m:Int->Option (wZ Int (Int⊕Unit)))(k:Option Int)(c:k=some (if 16<b.Needs.length then 3 else if tH b.Needs=true then 0 else 1))(n:b.BA.length<=8)(d:∀i (h:i<b.BA.length),m (i:Int)=some (match dX b.BA i with|some e=>.done (.inl e)|none=>.next (wrap .i64 ((i:Int)+1))))(f:m (b.BA.length:Int)=some (.done (.inr ())))(g:¬(b.BA.length<1\/8<b.BA.length)):bnd (zZ m 0) (λj=>xX j λ_=>k)=some (tG b):=by
 refine rW (λi=>(i:Int)) b.BA.length (λi=>(dX b.BA i).map .inl) (.inr ()) O (λi a=>?_) f ?_
 ·rw[d i a,zV a (by omega)]
  cases dX b.BA i<;>rfl
 ·unfold tG
  rw[AP g]
  have:(List.range b.BA.length).findSome? (λi=>(dX b.BA i).map (Sum.inl:Int->Int⊕Unit))=((List.range b.BA.length).findSome? (dX b.BA)).map .inl:=by
   generalize List.range b.BA.length=r;induction r with
   |nil=>rfl|cons x r l=>
    rw[OG,OG];cases dX b.BA x
    ·exact l
    ·rfl
  rw[this];cases(List.range b.BA.length).findSome? (dX b.BA)with
  |none=>exact c|some e=>rfl
def zSZ(b:yM):jY b=some (tG b):=by
 unfold jY;by_cases h:b.BA.length<1\/8<b.BA.length
 ·have:(bif decide ((b.BA.length:Int)<1)then some true else some (decide ((b.BA.length:Int)>8)):Option Bool)=some true:=by
   rcases h with h|h
   ·rw[BK (by omega:(b.BA.length:Int)<1)]
    rfl
   ·rw[BV (by omega:¬(b.BA.length:Int)<1),BK (by omega:(b.BA.length:Int)>8)]
    rfl
  rw[this];unfold tG;rw[AQ h];rfl
 ·have:(bif decide ((b.BA.length:Int)<1)then some true else some (decide ((b.BA.length:Int)>8)):Option Bool)=some false:=by rw[BV (by omega:¬(b.BA.length:Int)<1),BV (by omega:¬(b.BA.length:Int)>8)];rfl
  rw[this,AA,BB];refine zKJ b _ _ ?_ (by omega) (λi c=>?_) (by simp) h
  ·rw[zIN]
   by_cases e:16<b.Needs.length
   ·rw[BK (by omega:(b.Needs.length:Int)>16),AQ e]
    rfl
   ·rw[BV (by omega:¬(b.Needs.length:Int)>16),AP e]
    cases tH b.Needs<;>rfl
  ·rw[show decide ((i:Int)<(b.BA.length:Int))=true from BK (by omega),BD]
   refine yL (yN c) ?_;rw[V4,AA];unfold dX;rw[CJ c];simp only;cases g:vU b.BA[i]
   ·rfl
   ·simp only[EG,BB,NW,EI]
    by_cases d:i>0
    ·have hp:wrap .i64 ((i:Int)-1)=((i-1:Nat):Int):=Ws d c (by omega)
     have a:i-1<b.BA.length:=by omega
     rw[BK (by omega:(i:Int)>0),BD,hp,yN a,AA,zGX,AA,CJ a];simp only[DR,GK];by_cases f:Op.bytesLess b.BA[i-1].Name.toList b.BA[i].Name.toList=false
     ·simp[d,f]
     ·simp[f]
    ·rw[BV (by omega:¬(i:Int)>0),BB,AA]
     simp[d]
def zML(b:yM):gF b=some (tG b):=by
 unfold gF;by_cases h:b.BA.length<1\/8<b.BA.length
 ·have:(bif decide ((b.BA.length:Int)<1)then some true else some (decide ((b.BA.length:Int)>8)):Option Bool)=some true:=by
   rcases h with h|h
   ·rw[BK (by omega:(b.BA.length:Int)<1)]
    rfl
   ·rw[BV (by omega:¬(b.BA.length:Int)<1),BK (by omega:(b.BA.length:Int)>8)]
    rfl
  rw[this];unfold tG;rw[AQ h];rfl
 ·have:(bif decide ((b.BA.length:Int)<1)then some true else some (decide ((b.BA.length:Int)>8)):Option Bool)=some false:=by rw[BV (by omega:¬(b.BA.length:Int)<1),BV (by omega:¬(b.BA.length:Int)>8)];rfl
  rw[this,AA,BB];refine zKJ b _ _ ?_ (by omega) (λi c=>?_) (by simp) h
  ·rw[zNO]
   by_cases e:16<b.Needs.length
   ·rw[BK (by omega:(b.Needs.length:Int)>16),AQ e]
    rfl
   ·rw[BV (by omega:¬(b.Needs.length:Int)>16),AP e]
    cases tH b.Needs<;>rfl
  ·rw[show decide ((i:Int)<(b.BA.length:Int))=true from BK (by omega),BD]
   refine yL (yN c) ?_;rw[Xl,AA];unfold dX;rw[CJ c];simp only;cases g:vU b.BA[i]
   ·rfl
   ·simp only[EG,BB,NW,EI]
    by_cases d:i>0
    ·have hp:wrap .i64 ((i:Int)-1)=((i-1:Nat):Int):=Ws d c (by omega)
     have a:i-1<b.BA.length:=by omega
     rw[BK (by omega:(i:Int)>0),BD,hp,yN a,AA,AA,CJ a];simp only[DR,GK];by_cases f:Op.bytesLess b.BA[i-1].Name.toList b.BA[i].Name.toList=false
     ·simp[d,f]
     ·simp[f]
    ·rw[BV (by omega:¬(i:Int)>0),BB,AA]
     simp[d]
def Ez{b:yM}(h:tG b=0):1<=b.BA.length/\b.BA.length<=8/\(∀i∈b.BA,vU i=true)/\b.Needs.length<=16/\(∀n∈b.Needs,fY n=true):=by
 unfold tG at h;split at h
 ·cases h
 ·rename_i j
  split at h
  ·rename_i e d
   exfalso
   obtain⟨i,_,a⟩:=VB d;unfold dX at a;subst h;split at a
   ·cases a
   ·split at a
    ·cases a
    ·split at a
     ·cases a
     ·cases a
  ·rename_i d
   split at h
   ·cases h
   ·rename_i k
    split at h
    ·rename_i c
     refine⟨by omega,by omega,λx f=>?_,by omega,?_⟩
     ·obtain⟨i,a,rfl⟩:=vz f
      have:=RJ.1 d i (JS.2 a);unfold dX at this;rw[CJ a]at this;simp only at this;cases g:vU b.BA[i]
      ·rw[g]at this
       simp at this
      ·rfl
     ·simp only[tH,GX,List.all_eq_true]at c
      exact c.2
    ·cases h
def Ub(l:List zO)(s:ByteArray):Int:=match(List.range l.length).findSome? (λ(i:Nat)=>if(l[i]?.map zO.Name)=some s then some (i:Int)else none)with
 |some i=>i|none=>-1
def zNf(l:List zO)(s:ByteArray)(f:l.length<=1000000)(m:Int->Option (wZ Int (Int⊕Unit)))(b:∀i (h:i<l.length),m (i:Int)=some (bif(l[i].Name.toList==s.toList)then .done (.inl (i:Int))else .next (wrap .i64 ((i:Int)+1))))(c:m (l.length:Int)=some (.done (.inr ()))):bnd (zZ m 0) (λd=>xX d λ_=>some (-1))=some (Ub l s):=by
 refine rW (λi=>(i:Int)) l.length (λ(i:Nat)=>(if(l[i]?.map zO.Name)=some s then some (i:Int)else none).map .inl) (.inr ()) O (λi a=>?_) c ?_
 ·rw[b i a,CJ a,gV,zV a (by omega)]
  by_cases h:l[i].Name=s
  ·simp[h]
  ·simp[h]
 ·unfold Ub
  have:(List.range l.length).findSome? (λ(i:Nat)=>(if(l[i]?.map zO.Name)=some s then some (i:Int)else none).map (Sum.inl:Int->Int⊕Unit))=((List.range l.length).findSome? (λ(i:Nat)=>if(l[i]?.map zO.Name)=some s then some (i:Int)else none)).map .inl:=by
   generalize List.range l.length=r;induction r with
   |nil=>rfl|cons x r e=>
    rw[OG,OG];by_cases h:(l[x]?.map zO.Name)=some s
    ·rw[AQ h];rfl
    ·rw[AP h];exact e
  rw[this];cases(List.range l.length).findSome? (λ(i:Nat)=>if(l[i]?.map zO.Name)=some s then some (i:Int)else none)<;>rfl
def zVO(b:yM)(s:ByteArray)(a:b.BA.length<=1000000):gM b s=some (Ub b.BA s):=by
 unfold gM vK fA;rw[zNf b.BA s a _ (λi c=>?_) (by simp)]
 ·rfl
 ·rw[show decide ((i:Int)<(b.BA.length:Int))=true from BK (by omega),BD]
  refine yL (yN c) ?_;rw[AA];cases(b.BA[i].Name.toList==s.toList)<;>rfl
def Cc(n:Int):List Int:=[wrap .u8 (sI .u32 n 24),wrap .u8 (sI .u32 n 16),wrap .u8 (sI .u32 n 8),wrap .u8 n]
def ny(l:List Int):Int:=wrap .u32 (4294967295-Ry l)
def Ce(s:ByteArray):List Int:=wrap .u8 (s.size:Int)::iB s
def Cf(n:zY):List Int:=Ce n.DX++(ZP n.From++(Ce n.On++ZP n.At))
def Ci(i:zO):List Int:=dw i++Cc (WI i)
def Pj(b:yM):List Int:=[66,77,67,70,wrap .u8 (b.BA.length:Int)]++b.BA.flatMap Ci
def Ii(b:yM):List Int:=(Pj b++[wrap .u8 (b.Needs.length:Int)])++b.Needs.flatMap Cf
def Fa(b:yM):List Int:=Ii b++Cc (ny (Ii b))
def Ym(b:yM):List Int×Int:=if tG b=0 then if 8192<(Fa b).length then([],3)else(Fa b,0)else([],tG b)
def zQP{i:zO}(h:vU i=true):(Ci i).length<=604:=by obtain⟨a,c,d,b⟩:=jW h;have:=V5 (i:=i) ⟨(eK a).2,b⟩;simp only[Ci,ER,Cc,EP,KC];omega
def zNN{n:zY}(h:fY n=true):(Cf n).length<=46:=by simp only[fY,GX]at h;have a:=(eK h.1).2;have b:=(eK h.2.1).2;simp only[Cf,Ce,ZP,two,ER,EP,KC,lF];omega
def Yn{a:Type}(f:a->List Int)(k:Nat):∀(l:List a),(∀x∈l,(f x).length<=k)->(l.flatMap f).length<=k*l.length
 |[],_=>by simp|x::r,h=>by
  have b:=Yn f k r λy hy=>h y (by simp[hy])
  have c:=h x (by simp);rw[OI,ER,EP,Nat.mul_add];omega
def zNa(f:U->List Int){l:List U}(a:h<l.length):(l.take (h+1)).flatMap f=(l.take h).flatMap f++f l[h]:=by rw[xA a,XJ];simp only[OI,YA,MB]
def zRq{b:yM}(h:tG b=0):(Pj b).length<=4900:=by
 obtain⟨d,e,a,f,g⟩:=Ez h;have:=Yn Ci 604 b.BA λx c=>zQP (a x c)
 simp only[Pj,ER,EP,KC];omega
def zRS{b:yM}(h:tG b=0):(Ii b).length<=6000:=by
 obtain⟨d,e,f,g,a⟩:=Ez h;have i:=zRq h;have:=Yn Cf 46 b.Needs λx c=>zNN (a x c)
 simp only[Ii,ER,EP,KC];omega
def zYt{b:yM}(h:tG b=0):(Fa b).length<=6004:=by have:=zRS h;simp only[Fa,ER,Cc,EP,KC];omega
def zWO(b:List Int)(a:b.length<=140737488355328):rU b=some (ny b):=zOc b a
def zNW(b:List Int)(a:b.length<=140737488355328):vW b=some (ny b):=zRv b a
def zRo(b:List Int)(a:b.length<=140737488355328):rU b=some (ny b):=zOc b a
def yAR{s:ByteArray}(h:s.size<=1000000):nA s=some (Ce s):=by have a:=lF s;unfold nA;rw[kY (by simp[a];omega),AA];rfl
def zRT(v:zS):tQ v=some (ZP v):=by unfold tQ nI;simp only[AA];rw[kY (by simp),AA,kY (by simp),AA];simp[ZP,two]
def zYe(n:Int):iO n=some (Cc n):=rfl
def zSS(b:yM):eQ b=some (Ym b):=by
 unfold eQ Ym;rw[zML,AA];by_cases h:tG b=0
 ·obtain⟨z,A,k,B,l⟩:=Ez h
  rw[AQ h,h];have p:app 1 ([66,77,67,70]:List Int) [wrap .u8 (b.BA.length:Int)]=some [66,77,67,70,wrap .u8 (b.BA.length:Int)]:=kY (by simp);rw[show((0:Int) !=0)=false from O,BB,p,AA]
  have q:∀i,([66,77,67,70,wrap .u8 (b.BA.length:Int)]++(b.BA.take i).flatMap Ci).length<=5000:=λi=>by
   have:=Yn Ci 604 (b.BA.take i) λx f=>zQP (k x (OE f))
   rw[DV]at this;simp only[ER,EP,KC];omega
  refine xM (λi=>([66,77,67,70,wrap .u8 (b.BA.length:Int)]++(b.BA.take i).flatMap Ci,(i:Int))) b.BA.length (Pj b) (by simp) (λi a=>?_) ?_ ?_
  ·have d:=k _ (DJ a)
   obtain⟨m,r,C,t⟩:=jW d;have n:b.BA[i].Name.size<=16/\b.BA[i].Data.length<=512:=⟨(eK m).2,t⟩;have D:=V5 n;have g:=q i;dsimp only;rw[BK (by omega:(i:Int)<(b.BA.length:Int)),BD];refine yL (yN a) ?_;refine yL (zNS n) ?_;refine yL (kY (by omega)) ?_;refine yL (V6 _) ?_;refine yL (zYe _) ?_;refine yL (kY (by simp only[ER,Cc,EP,KC]at g⊢;omega)) ?_;rw[zV a (by omega),zNa Ci a];simp[Ci]
  ·dsimp only
   rw[BV (by omega:¬(b.BA.length:Int)<(b.BA.length:Int)),BB,GU];rfl
  ·have u:=zRq h
   refine yL (kY (by simp;omega)) ?_
   have w:∀i,((Pj b++[wrap .u8 (b.Needs.length:Int)])++(b.Needs.take i).flatMap Cf).length<=6000:=λi=>by
    have:=Yn Cf 46 (b.Needs.take i) λx f=>zNN (l x (OE f))
    rw[DV]at this;simp only[ER,EP,KC];omega
   refine xM (λi=>((Pj b++[wrap .u8 (b.Needs.length:Int)])++(b.Needs.take i).flatMap Cf,(i:Int))) b.Needs.length (Ii b) (by simp) (λi a=>?_) ?_ ?_
   ·have d:=l _ (DJ a)
    have c:=w i;simp only[fY,GX]at d;have m:=(eK d.1).2;have r:=(eK d.2.1).2;have j:∀v:zS,(ZP v).length=6:=λv=>O
    have e:∀s:ByteArray,(Ce s).length=s.size+1:=λs=>by simp[Ce,lF]
    dsimp only;rw[BK (by omega:(i:Int)<(b.Needs.length:Int)),BD];refine yL (yN a) ?_;refine yL (yAR (by omega)) ?_;refine yL (kY (by simp only[ER,e]at c⊢;omega)) ?_;refine yL (zRT _) ?_;refine yL (kY (by simp only[ER,e,j]at c⊢;omega)) ?_;refine yL (yAR (by omega)) ?_;refine yL (kY (by simp only[ER,e,j]at c⊢;omega)) ?_;refine yL (zRT _) ?_;refine yL (kY (by simp only[ER,e,j]at c⊢;omega)) ?_;rw[zV a (by omega),zNa Cf a];simp[Cf]
   ·dsimp only
    rw[BV (by omega:¬(b.Needs.length:Int)<(b.Needs.length:Int)),BB,GU];rfl
   ·have y:=zRS h
    refine yL (zWO _ (by omega)) ?_;refine yL (zYe _) ?_;refine yL (kY (by simp only[Cc,EP,KC];omega)) ?_;have:Ii b++Cc (ny (Ii b))=Fa b:=rfl;rw[this];by_cases o:8192<(Fa b).length
    ·rw[BK (by omega:((Fa b).length:Int)>8192),AQ o]
     rfl
    ·rw[BV (by omega:¬((Fa b).length:Int)>8192),AP o]
     rfl
 ·rw[AP h]
  have:(tG b !=0)=true:=by simpa using h
  rw[this];rfl
def rd(n:Nat)(r:List Nat):Option (List Nat×List Nat):=if n<=r.length then some (r.take n,r.drop n)else none
def be(l:List Nat):Nat:=l.foldl (λv x=>v*256+x) 0
def tD(n:Nat)(r:List Nat):Option (Nat×List Nat):=(rd n r).map λx=>(be x.1,x.2)
def lC(r:List Nat):Option (List Nat×List Nat):=(tD 1 r).bind λx=>rd x.1 x.2
def bL(r:List Nat):Option (zS×List Nat):=(tD 2 r).bind λx=>(tD 2 x.2).bind λy=>(tD 2 y.2).map λz=>(⟨(x.1:Int),(y.1:Int),(z.1:Int)⟩,z.2)
def zYr(x:Nat)(l:List Nat):be (l++[x])=be l*256+x:=by simp[be]
def Yo(a:h<E.length):be (E.take (h+1))=be (E.take h)*256+E[h]:=by rw[xA a,zYr]
def Pm(l:List Nat)(h:xJ l):be l<256^l.length:=by
 have:∀n,n<=l.length->be (l.take n)<256^n:=by
  intro n;induction n with
  |zero=>intro _;simp[be]
  |succ n b=>
   intro c;have a:=b (by omega);have d:=h.get (i:=n) (by omega);rw[Yo (by omega),Nat.pow_succ];omega
 have a:=this l.length (FN _)
 rwa [GU]at a
def zQX(n:Nat):be (List.replicate n 0)=0:=by
 induction n with
 |zero=>rfl|succ n a=>rw[um,zYr,a]
def zTZ(b:h<16777216)(c:D<256):GR .i64 (cB .i64 (h:Int) 8) (D:Int)=((h*256+D:Nat):Int):=by have:=Wx (a:=h) (s:=8) (by omega) (by omega);rw[show((8:Nat):Int)=8 from O]at this;rw[this,Nq (by omega) (by omega),zZR (s:=8) (by omega)]
def eu(s:yP)(b:List Nat)(o:Option (List Nat)):Prop:=s.b=iz b/\∃a:Nat,s.at_=(a:Int)/\a<=b.length/\((s.bad=false/\o=some (b.drop a))\/(s.bad=true/\o=none))
variable{W:Option (List Nat)}{Z:yP}
def zUg(h:eu Z E W)(m:xJ E)(t:E.length<=1000000){n:Nat}(u:n<=70000):∃f d,vN Z (n:Int)=some (f,iz d)/\eu f E (W.bind λr=>(rd n r).map (·.2))/\xJ d/\(∀x,W.bind (rd n)=some x->d=x.1)/\(W.bind (rd n)=none->be d=0)/\d.length<=n:=by
 obtain⟨g,a,i,j,k⟩:=h;obtain⟨sb,v,sd⟩:=Z;simp only at g i k;subst g;subst i;unfold vN;rcases k with⟨rfl,rfl⟩|⟨rfl,rfl⟩
 ·have o:wrap .i64 (((iz E).length:Int)-(a:Int))=((E.length-a:Nat):Int):=by rw[ES,yF (by omega) (by omega)];omega
  simp only[BB,o,AA];by_cases l:n<=E.length-a
  ·have p:wrap .i64 ((a:Int)+(n:Int))=((a+n:Nat):Int):=by rw[yF (by omega) (by omega)];omega
   have q:wrap .i64 (((a+n:Nat):Int)-(n:Int))=(a:Int):=by rw[yF (by omega) (by omega)];omega
   have e:rd n (E.drop a)=some ((E.drop a).take n,E.drop (a+n)):=by unfold rd;rw[AQ (by rw[EM];exact l),IV]
   have s:(E.take (a+n)).drop a=(E.drop a).take n:=by rw[LD];congr 1;omega
   rw[BV (by omega:¬(n:Int)>((E.length-a:Nat):Int)),BB,p,q,Np (by omega) (by omega),AA,s];refine⟨_,(E.drop a).take n,O,⟨O,a+n,O,by omega,.inl ⟨O,?_⟩⟩,(m.drop a).take n,λx c=>?_,λc=>?_,by rw[DV];omega⟩
   ·simp[e]
   ·simp only[CS,e,LV]at c
    rw[<-c]
   ·simp[e]at c
  ·have e:rd n (E.drop a)=none:=by unfold rd;rw[AP (by rw[EM];exact l)]
   rw[BK (by omega:(n:Int)>((E.length-a:Nat):Int)),BD];rw[zXJ (b:=1) (n:=n) (by omega) (by omega),AA];refine⟨_,List.replicate n 0,O,⟨O,a,O,j,.inr ⟨O,?_⟩⟩,λx c=>by rw[qo c];omega,λx c=>?_,λ_=>zQX n,by simp⟩
   ·simp[e]
   ·simp[e]at c
 ·simp only[BD,AA]
  rw[zXJ (b:=1) (n:=n) (by omega) (by omega),AA];refine⟨_,List.replicate n 0,O,⟨O,a,O,j,.inr ⟨O,?_⟩⟩,λx c=>by rw[qo c];omega,λx c=>?_,λ_=>zQX n,by simp⟩
  ·simp
  ·simp at c
def Ij(h:eu Z E W)(l:xJ E)(m:E.length<=1000000){n:Nat}(t:n<=4):∃c v,yZ Z (n:Int)=some (c,((v:Nat):Int))/\eu c E (W.bind λr=>(tD n r).map (·.2))/\v=((W.bind (tD n)).map (·.1)).getD 0:=by
 obtain⟨c,a,o,p,g,j,e,u⟩:=zUg h l m (n:=n) (by omega);refine⟨c,((W.bind (tD n)).map (·.1)).getD 0,?_,?_,O⟩
 ·unfold yZ
  refine yL o ?_
  have q:((W.bind (tD n)).map (·.1)).getD 0=be a:=by
   cases W with
   |none=>exact(e O).symm|some r=>
    simp only[CS]at j e⊢;unfold tD;cases k:rd n r with
    |none=>exact(e k).symm|some x=>
     rw[j x k];rfl
  rw[q];refine xM (λi=>(((be (a.take i):Nat):Int),(i:Int))) a.length ((be a:Nat):Int) O (λi d=>?_) ?_ O
  ·have s:=g.get d
   have b:=Pm (a.take i) (g.take i);rw[DV,NP (by omega)]at b
   have f:be (a.take i)<16777216:=GV b (by have:(256:Nat)^i<=256^3:=OM (by omega) (by omega);omega)
   dsimp only;rw[BK (by rw[ES];omega:(i:Int)<((iz a).length:Int)),BD];refine yL (iV d) ?_;rw[xN (by omega),zTZ f s,zV d (by omega),Yo d]
  ·dsimp only
   rw[BV (by rw[ES];omega:¬(a.length:Int)<((iz a).length:Int)),BB,GU]
 ·have:(W.bind λr=>(tD n r).map (·.2))=(W.bind λr=>(rd n r).map (·.2)):=by
   cases W with
   |none=>rfl|some r=>
    simp only[CS];unfold tD;cases rd n r<;>rfl
  rw[this];exact p
def zGO{b:List Nat}(n:Nat)(e:n<=4)(d:∀r,W=some r->xJ r):((W.bind (tD n)).map (·.1)).getD 0<256^n:=by
 have hp:0<256^n:=Nat.pow_pos (by omega);cases W with
 |none=>simpa using hp|some r=>
  simp only[CS];unfold tD;cases a:rd n r with
  |none=>simpa using hp|some x=>
   simp only[DR,GK];unfold rd at a;split at a
   ·rename_i c
    injection a with a;rw[<-a];have:=Pm (r.take n) ((d r O).take n);rw[DV,NP c]at this;exact this
   ·cases a
def zPB(h:eu Z E W)(d:xJ E):∀r,W=some r->xJ r:=by
 obtain⟨_,a,_,_,e⟩:=h;intro r b;rcases e with⟨_,c⟩|⟨_,c⟩
 ·rw[c]at b
  injection b with b;rw[<-b];exact d.drop a
 ·rw[c]at b
  cases b
def zYY(h:eu Z E W)(e:xJ E)(i:E.length<=1000000):∃j t,wX Z=some (j,t)/\eu j E (W.bind λr=>(lC r).map (·.2))/\(∀x,W.bind lC=some x->t=sb x.1):=by
 obtain⟨p,q,k,l,rfl⟩:=Ij h e i (n:=1) (by omega);have s:=zGO (b:=E) 1 (by omega) (zPB h e);obtain⟨m,f,o,c,u,g,v,w⟩:=zUg l e i (n:=((W.bind (tD 1)).map (·.1)).getD 0) (by omega);refine⟨m,sb f,?_,?_,λx a=>?_⟩
 ·unfold wX
  refine yL k ?_;refine yL o ?_;rw[bW]
 ·cases W with
  |none=>exact c|some r=>
   simp only[CS]at c⊢;unfold lC;cases d:tD 1 r with
   |none=>rw[d]at c;exact c|some y=>rw[d]at c;exact c
 ·cases W with
  |none=>cases a|some r=>
   simp only[CS]at g a;unfold lC at a;cases d:tD 1 r with
   |none=>rw[d]at a;cases a|some y=>
    rw[d]at a g;rw[g x a]
def yBW(h:eu Z E W)(f:xJ E)(g:E.length<=1000000):∃i v,wG Z=some (i,v)/\eu i E (W.bind λr=>(bL r).map (·.2))/\(∀x,W.bind bL=some x->v=x.1):=by
 obtain⟨C,j,k,l,m⟩:=Ij h f g (n:=2) (by omega);obtain⟨D,o,p,q,s⟩:=Ij l f g (n:=2) (by omega);obtain⟨t,w,A,b,B⟩:=Ij q f g (n:=2) (by omega);refine⟨t,⟨(j:Int),(o:Int),(w:Int)⟩,?_,?_,λx a=>?_⟩
 ·unfold wG
  refine yL k ?_;refine yL p ?_;refine yL A ?_;rfl
 ·cases W with
  |none=>exact b|some r=>
   simp only[CS]at b⊢;unfold bL;cases e:tD 2 r with
   |none=>rw[e]at b;exact b|some y=>
    rw[e]at b;simp only[DR,CS]at b⊢;cases c:tD 2 y.2 with
    |none=>rw[c]at b;exact b|some z=>
     rw[c]at b;simp only[DR,CS]at b⊢;cases d:tD 2 z.2 with
     |none=>rw[d]at b;exact b|some u=>rw[d]at b;exact b
 ·cases W with
  |none=>cases a|some r=>
   simp only[CS]at a⊢;unfold bL at a;cases e:tD 2 r with
   |none=>rw[e]at a;cases a|some y=>
    rw[e]at a;simp only[DR,CS]at a⊢;cases c:tD 2 y.2 with
    |none=>rw[c]at a;cases a|some z=>
     rw[c]at a;simp only[DR,CS]at a⊢;cases d:tD 2 z.2 with
     |none=>rw[d]at a;cases a|some u=>
      rw[d]at a;simp only[DR,LV]at a;rw[<-a,m,s,B];simp only[CS,e,c,d,DR,GK]
end Go.Proofs.YtjconpohbhlcmaaGreatDoor
end
