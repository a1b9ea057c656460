/-
  Texts of this seat, put together: rules, walks, plain laws.
  Conditions: none.
-/
import Derived.Test.YtjconpohbhlcmaaGreatDoorVX8
noncomputable section
namespace Go.Proofs.YtjconpohbhlcmaaGreatDoor
open Go IntKind
set_option linter.unusedVariables false
set_option linter.defProp false
set_option linter.unusedSimpArgs false
set_option linter.unusedSectionVars false
set_option maxHeartbeats 4000000
set_option maxRecDepth 10000
def zVG(b:List Nat):ig (⟨iz b,0,false⟩:yX) b (some b):=⟨O,0,O,by omega,.inl ⟨O,O⟩⟩
variable{f:List Nat}
def zXe{s:yX}{r:List Nat}(h:ig s f (some r)):s.bad=false/\∃a:Nat,s.at_=(a:Int)/\a<=f.length/\r=f.drop a:=by
 obtain⟨_,a,d,e,c⟩:=h;rcases c with⟨c,b⟩|⟨_,b⟩
 ·injection b with b
  exact⟨c,a,d,e,b⟩
 ·cases b
def zKx{s:yX}(h:ig s f none):s.bad=true:=by
 obtain⟨_,a,d,e,b⟩:=h;rcases b with⟨_,c⟩|⟨b,_⟩
 ·cases c
 ·exact b
def zRG{o:Option (List Nat)}{s:yX}(h:ig s f o)(a:xJ f):((o.bind (tD 1)).map (·.1)).getD 0<256:=zHQ (b:=f) 1 (by omega) (zOy h a)
variable{m:Nat}
def yAi(b:xJ f)(c:f.length=4)(a:m<4294967296):Io m=f↔be f=m:=by
 constructor
 ·intro h
  rw[<-h,zSj a]
 ·intro h
  refine yBj (zHB m) b c.symm ?_;rw[zSj a,h]
def zGP:∀(k:Nat) (r:List Nat) (y:List Pn×List Nat),nL k r=some y->y.1.length=k
 |0,r,y,h=>by simp only[nL,LV]at h;rw[<-h];rfl|k+1,r,y,h=>by rw[nL]at h;obtain⟨x,d,a⟩:=vD h;obtain⟨w,b,c⟩:=fU a;rw[<-c,EP,zGP k _ w b]
def zSC(Q:xJ f)(hl:f.length<=100000):dB (iz f)=some (qP f):=by
 unfold dB qP Cj;by_cases R:8192<f.length
 ·rw[AQ R,yT (BK (by rw[ES];omega))]
 rw[AP R,yI (BV (by rw[ES];omega))];by_cases S:f.length<10
 ·rw[AQ S,yT (BK (by rw[ES];omega))]
 rw[AP S,yI (BV (by rw[ES];omega))];have w:wrap .i64 (((iz f).length:Int)-4)=((f.length-4:Nat):Int):=by rw[ES,yF (by omega) (by omega)];omega
 have E:sub (iz f) ((f.length-4:Nat):Int) ((iz f).length:Int)=some (iz (f.drop (f.length-4))):=by rw[ES,Np (by omega) (by omega),GU]
 have F:sub (iz f) 0 ((f.length-4:Nat):Int)=some (iz (f.take (f.length-4))):=by rw[show(0:Int)=((0:Nat):Int)from O,Np (by omega) (by omega),NR]
 rw[w,E,F];have j:(f.take (f.length-4)).length=f.length-4:=by rw[DV];omega
 have k:((f.length-4:Nat):Int)=((f.take (f.length-4)).length:Int):=by rw[j]
 rw[k];generalize Y:f.take (f.length-4)=body at*;generalize T:f.drop (f.length-4)=tail at*;have d:xJ body:=by rw[<-Y];exact Q.take _
 have l:xJ tail:=by rw[<-T];exact Q.drop _
 have q:tail.length=4:=by rw[<-T,EM];omega
 have G:=Pm tail l;rw[q]at G;have H:=zLD (iz body);rw[AA];refine yL (zRo _ (by rw[ES];omega)) ?_;rw[AA];refine yL (zYe _) ?_
 have s:((iR (Cc (ny (iz body)))).toList==(iR (iz tail)).toList)=decide (((be tail:Nat):Int)=ny (iz body)):=by rw[zKZ H.1,bW,bW,dT,Nl (zHB _),Nl l,FK,FP,FP,yAi l q (by omega)];omega
 rw[s];by_cases C:((be tail:Nat):Int)≠ny (iz body)
 ·rw[AQ C,BV C]
  rfl
 rw[AP C,BK (by simpa using C),EG,BB,AA];obtain⟨s3,t3,f3,I,w3,Z,_,_⟩:=zUj (zVG body) d (by omega) (n:=4) (by omega);have e3:=Z _ (by rw[CS];exact Za (by omega));rw[CS,Za (by omega),DR]at I;subst e3;refine yL f3 ?_;dsimp only
 have t:((iR (iz (body.take 4))).toList==((⟨#[66,77,67,70]⟩):ByteArray).toList)=decide (body.take 4=[66,77,67,70]):=by rw[bW,dT,Nl (d.take 4)];rfl
 rw[t];unfold zUc Cj;by_cases c4:body.take 4≠[66,77,67,70]
 ·rw[AQ c4,BV c4]
  rfl
 rw[AP c4,BK (by simpa using c4),EG,BB];obtain⟨s4,e,f4,J,D⟩:=Kt I d (by omega) (n:=1) (by omega);have K:=zRG I d;rw[<-D]at K;rw[CS,zFb (by rw[EM];omega),DR]at J D;simp only[GK,IV]at J D;refine yL f4 ?_;obtain⟨U,L,og,f5,V,v5⟩:=yCc d (by omega) _ (λ_=>O) e [] s4 _ [] J (by simp;omega) O;refine yL f5 ?_;obtain⟨s6,W,f6,g6,p⟩:=Kt V d (by omega) (n:=1) (by omega);have M:=zRG V d;rw[<-p]at M;refine yL (show xD (⟨L.b,L.at_,L.bad⟩:yX) 1=_ from f6) ?_;obtain⟨s7,N,f7,c,u⟩:=yBe d (by omega) _ (λ_=>O) W s6 _ [] g6 (by simp;omega);refine yL f7 ?_;dsimp only;rw[zPN body (by omega)];rw[show be ((body.drop 4).take 1)=e from D.symm];cases v:nL e (body.drop 5)with
 |none=>
  have e5:((some (List.drop (4+1) body)).bind λr=>Option.map (λx=>x.2) (nL e r))=none:=by rw[CS,v];rfl
  rw[show(((some (List.drop (4+1) body)).bind λr=>Option.map (λx=>x.2) (nL e r)).bind λr=>Option.map (λx=>x.2) (tD 1 r))=none by rw[e5];rfl]at c;rw[zKx c];rfl
 |some x=>
  have e5:((some (List.drop (4+1) body)).bind λr=>Option.map (λx=>x.2) (nL e r))=some x.2:=by rw[CS,v];rfl
  obtain⟨i1,i2⟩:=v5 x (by rw[CS];exact v);rw[e5]at c u p;rw[CS]at c u p;rw[CS];cases X:tD 1 x.2 with
  |none=>
   rw[X]at c;rw[zKx c];rfl
  |some y=>
   rw[X]at c u p;rw[DR,CS]at c u;rw[DR,GK]at p;rw[CS,<-p];cases P:jF W y.2 with
   |none=>
    rw[P]at c;rw[zKx c];rfl
   |some z=>
    rw[P]at c;have j1:=u z P;obtain⟨k1,a,k2,k3,k4⟩:=zXe c;rw[k1,BB,AA,DR];dsimp only;rw[k2]
    have m:((a:Int) !=(body.length:Int))=decide (z.2≠[]):=by rw[FK];simp only[JY,JZ,FP,k4,uo];omega
    rw[m];by_cases c5:z.2≠[]
    ·rw[AQ c5,BK c5]
     rfl
    rw[AP c5,BV c5,BB,i2,i1,j1,JI,JI,JI];have A:=zMJ e _ x (d.drop 5) v;have hxl:=zGP e _ x v;refine uA (λi=>(i:Int)) x.1.length (λi=>!((x.1[i]?.map Az).getD true)) (.inl (⟨[],[]⟩,5)) (.inr ()) O (λi o=>?_) (by simp) ?_
    ·have hz:=A _ (DJ o)
     rw[BK (by rw[FQ];omega:(i:Int)<((x.1.map λz=>((z.2.1:Nat):Int)).length:Int)),BD];refine yL (yN (by rw[FQ];omega)) ?_;refine yL (yN (by rw[FQ];omega)) ?_;refine yL (yN (by rw[FQ];omega)) ?_;refine yL (yN (by rw[FQ];omega)) ?_;rw[IE,IE];refine yL (zTi ⟨hz.2.1,hz.2.2⟩) ?_;refine yL (zRo _ (by have:=zUU ⟨hz.2.1,hz.2.2⟩;omega)) ?_;rw[hz.1,CJ o,DR,GK]
     have:(ny (iz x.1[i].2.2) !=((x.1[i].2.1:Nat):Int))=!Az x.1[i]:=by unfold Az;rw[FK];simp only[JY,JZ,JQ,JO];exact⟨λh g=>h g.symm,λh g=>h g.symm⟩
     rw[this,zV o (by omega)];cases Az x.1[i]<;>rfl
    ·have B:(List.range x.1.length).any (λi=>!((x.1[i]?.map Az).getD true))=!x.1.all Az:=by rw[Wv x.1 (λz=>!Az z) _ λi h=>by rw[CJ h];rfl];rw[List.not_all_eq_any_not]
     rw[B];cases c6:x.1.all Az
     ·rfl
     ·rw[EG,BB,FD,zML,AA]
      by_cases c7:tG ⟨x.1.map (·.1),z.1⟩≠0
      ·rw[AP (by simp),AQ c7,yT (by simpa using c7)]
      ·rw[AP (by simp),AP c7,yI (by simpa using c7)]
variable{h:Nat}
def zIY(p:m<9223372036854775808):(Jc .i64 (m:Int) (h:Int) !=0)=true↔¬VU m h:=by
 unfold Jc;show(wrap .i64 (((BitVec.ofInt 64 (m:Int)&&&~~~BitVec.ofInt 64 (h:Int)).toNat:Nat):Int) !=0)=true↔_;rw[uw,uw]
 have e:(BitVec.ofNat 64 m&&&~~~BitVec.ofNat 64 h).toNat<=m:=by rw[SA];refine JU Nat.and_le_left ?_;rw[BitVec.toNat_ofNat];exact Nat.mod_le _ _
 rw[yF (by omega) (by omega),JY]
 have b:∀i,(BitVec.ofNat 64 m&&&~~~BitVec.ofNat 64 h).toNat.testBit i=(m.testBit i&&(decide (i<64)&&!h.testBit i)):=λi=>by rw[BitVec.testBit_toNat,BitVec.getLsbD_and,BitVec.getLsbD_not,uy,uy];cases decide (i<64)<;>cases m.testBit i<;>cases h.testBit i<;>rfl
 generalize (BitVec.ofNat 64 m&&&~~~BitVec.ofNat 64 h).toNat=v at e b;have c:∀i,m.testBit i=true->i<64:=λi d=>Y2 (n:=64) (by omega) d
 constructor
 ·intro a k
  apply a
  have:v=0:=by
   apply PY;intro i;rw[b i];cases f:m.testBit i
   ·simp
   ·simp[k i f]
  rw[this];rfl
 ·intro a l
  have g:v=0:=by exact_mod_cast l
  apply a;intro i d;have j:=b i;rw[g,d]at j;have o:=c i d;simp[o]at j;exact j
theorem zNz(s:ByteArray):rQ s=some (pY s):=by
 unfold rQ;have j:(bs s).length=s.size:=bs_len s;by_cases h:(s.size<1)\/(16<s.size)
 ·have:pY s=false:=by
   unfold pY;rw[j];rcases h with h|h
   ·have:decide (1<=s.size)=false:=BV (by omega)
    rw[this];rfl
   ·have:decide (s.size<=16)=false:=BV (by omega)
    rw[this];simp
  rw[this];rcases h with h|h
  ·have d:decide ((s.size:Int)<1)=true:=BK (by omega)
   rw[d];rfl
  ·have d:decide ((s.size:Int)>16)=true:=BK (by omega)
   rw[d];cases decide ((s.size:Int)<1)<;>rfl
 ·have m:decide ((s.size:Int)<1)=false:=BV (by omega)
  have n:decide ((s.size:Int)>16)=false:=BV (by omega);have k:0<s.size:=by omega
  have e:0<(bs s).length:=by omega
  have o:JA s 0=some (((bs s)[0]:Nat):Int):=zOj k
  have b:pY s=(jc (bs s)[0]&&(List.range s.size).all λi=>match(bs s)[i]?with|some x=>jc x||Bv x|none=>true):=by
   unfold pY;have b1:decide (1<=(bs s).length)=true:=BK (by omega);have b2:decide ((bs s).length<=16)=true:=BK (by omega);rw[b1,b2,j];simp only[GL];rw[FK,GX,List.all_eq_true,List.all_eq_true];constructor
   ·intro l
    refine⟨?_,λi c=>?_⟩
    ·have:=l 0 (by simpa using k)
     rw[CJ e]at this;simpa using this
    ·have:=l i c
     cases p:(bs s)[i]?with
     |none=>rfl|some x=>
      rw[p]at this;simp only[KZ,GX]at this⊢;rcases this with g|g
      ·exact .inl g
      ·exact .inr g.2
   ·grind
  rw[b];simp only[m,n,BB,o,AA];have q:∀x:Nat,decide ((x:Int)>=97)=decide (97<=x):=λx=>by congr 1;simp;omega
  have r:∀x:Nat,decide ((x:Int)<=122)=decide (x<=122):=λx=>by congr 1;simp;omega
  have t:∀x:Nat,decide ((x:Int)>=48)=decide (48<=x):=λx=>by congr 1;simp;omega
  have u:∀x:Nat,decide ((x:Int)<=57)=decide (x<=57):=λx=>by congr 1;simp;omega
  have v:∀x:Nat,((x:Int)==45)=(x==45):=λx=>by rw[FK,KL,KL];omega
  have a6:∀x:Nat,decide ((x:Int)<97)=!decide (97<=x):=λx=>by rw[<-MJ];congr 1;simp;omega
  have a7:∀x:Nat,decide ((x:Int)>122)=!decide (x<=122):=λx=>by rw[<-MJ];congr 1;simp;omega
  rw[a6,a7];cases a:jc (bs s)[0]
  ·have:(bif !decide (97<=(bs s)[0])then some true else some (!decide ((bs s)[0]<=122)):Option Bool)=some true:=by unfold jc at a;revert a;cases decide (97<=(bs s)[0])<;>cases decide ((bs s)[0]<=122)<;>simp
   rw[this];rfl
  ·have:(bif !decide (97<=(bs s)[0])then some true else some (!decide ((bs s)[0]<=122)):Option Bool)=some false:=by unfold jc at a;revert a;cases decide (97<=(bs s)[0])<;>cases decide ((bs s)[0]<=122)<;>simp
   rw[this];simp only[AA,BB,GL];refine uA (λ(i:Nat)=>(i:Int)) s.size (λi=>match(bs s)[i]?with|some x=>!(jc x||Bv x)|none=>false) (.inl false) (.inr ()) O (λi c=>?_) ?_ ?_
   ·have f:i<(bs s).length:=by omega
    have d0:decide ((i:Int)<(s.size:Int))=true:=BK (by omega);simp only[d0,BD,zOj c,AA,zV c (by omega),q,r,t,u,v];rw[CJ f];generalize (bs s)[i]=x;simp only[jc,Bv];cases decide (97<=x)<;>cases decide (x<=122)<;>cases decide (48<=x)<;>cases decide (x<=57)<;>cases x==45<;>rfl
   ·have d0:decide ((s.size:Int)<(s.size:Int))=false:=by simp
    simp only[d0,BB]
   ·have w:(List.range s.size).any (λi=>match(bs s)[i]?with|some x=>!(jc x||Bv x)|none=>false)=!((List.range s.size).all λi=>match(bs s)[i]?with|some x=>jc x||Bv x|none=>true):=by rw[<-eG];congr 1;funext i;cases(bs s)[i]?<;>rfl
    rw[w];cases(List.range s.size).all λi=>match(bs s)[i]?with|some x=>jc x||Bv x|none=>true<;>rfl
def zQM(v:zS):rT v=some (lu v):=by unfold rT lu;cases decide (0<=v.CB)<;>cases decide (v.CB<=999)<;>cases decide (0<=v.CG)<;>cases decide (v.CG<=999)<;>cases decide (0<=v.CQ)<;>cases decide (v.CQ<=999)<;>rfl
theorem zLz(l:List zR):gR l=some (rB l):=by
 unfold gR rB;by_cases h:8<l.length
 ·grind
 ·have c:decide ((l.length:Int)>8)=false:=BV (by omega)
  have d:decide (l.length<=8)=true:=BK (by omega);rw[c,d];simp only[BB,GL];refine uA (λ(i:Nat)=>(i:Int)) l.length (λi=>!Hz l i) (.inl false) (.inr ()) O (λi a=>?_) ?_ ?_
  ·have d0:decide ((i:Int)<(l.length:Int))=true:=BK (by omega)
   simp only[d0,BD,yN a,AA,zNz,zQM,zV a (by omega),Hz,CJ a];by_cases b:i=0
   ·subst b
    have e:decide (((0:Nat):Int)>0)=false:=by simp
    rw[e];cases pY l[0].Name<;>cases lu l[0].Version<;>rfl
   ·have e:decide ((i:Int)>0)=true:=BK (by omega)
    have f:(i==0)=false:=by simp[b]
    have hp:i-1<l.length:=by omega
    rw[e,f,Ws (n:=l.length) (by omega) a (by omega),yN hp,CJ hp];simp only[AA,QD,BD,blt_eq];cases pY l[i].Name<;>cases lu l[i].Version<;>cases blt l[i-1].Name l[i].Name<;>rfl
  ·have d0:decide ((l.length:Int)<(l.length:Int))=false:=by simp
   simp only[d0,BB]
  ·rw[eG]
   cases(List.range l.length).all (Hz l)<;>rfl
theorem zTu(l:List zY):pP l=some (kQ l):=by
 unfold pP kQ;by_cases h:16<l.length
 ·grind
 ·have b:decide ((l.length:Int)>16)=false:=BV (by omega)
  have c:decide (l.length<=16)=true:=BK (by omega);rw[b,c];simp only[BB,GL];refine uA (λ(i:Nat)=>(i:Int)) l.length (λi=>match l[i]?with|some x=>!Ia x|none=>false) (.inl false) (.inr ()) O (λi a=>?_) ?_ ?_
  ·have d0:decide ((i:Int)<(l.length:Int))=true:=BK (by omega)
   simp only[d0,BD,yN a,AA,zNz,zQM,zV a (by omega),CJ a,dT,Ia];generalize l[i]=x;cases pY x.DX<;>cases pY x.On<;>cases decide (bs x.DX=bs x.On)<;>cases lu x.From<;>cases lu x.At<;>rfl
  ·have d0:decide ((l.length:Int)<(l.length:Int))=false:=by simp
   simp only[d0,BB]
  ·rw[Wv l (λx=>!Ia x) _ (λi a=>by rw[CJ a]),eG]
   cases l.all Ia<;>rfl
variable{D:List zR}
def zQj(a:D.length<=1000)(name:ByteArray):U1 D name=some (match cU D name with|some v=>(v,true)|none=>(⟨0,0,0⟩,false)):=zGi a name
theorem zZF(x y:Int):kF x y=some (if x<y then-1 else if y<x then 1 else 0):=by
 unfold kF
 grind
theorem zJk(a b:zS):∃r,kB a b=some r/\decide (r<0)=Ib a b:=by
 unfold kB Ib;simp only[AA,zZF];by_cases c:a.CB<b.CB
 ·exact⟨-1,by simp[c],by simp[c]⟩
 ·by_cases f:b.CB<a.CB
  ·have:¬a.CB=b.CB:=by omega
   exact⟨1,by simp[c,f],by simp[c,this]⟩
  ·have e:a.CB=b.CB:=by omega
   by_cases g:a.CG<b.CG
   ·exact⟨-1,by simp[c,f,g],by simp[e,g]⟩
   ·by_cases h:b.CG<a.CG
    ·grind
    ·have i:a.CG=b.CG:=by omega
     by_cases d:a.CQ<b.CQ
     ·exact⟨-1,by simp[c,f,g,h,d],by simp[e,i,d]⟩
     ·by_cases j:b.CQ<a.CQ
      ·exact⟨1,by simp[c,f,g,h,d,j],by simp[e,i,d]⟩
      ·exact⟨0,by simp[c,f,g,h,d,j],by simp[e,i,d]⟩
theorem zUn(a:D.length<=1000)(n:zY):U2 D n=some (jU D n):=by
 unfold U2 jU;rw[zQj a,zQj a];cases e:cU D n.DX with
 |none=>rfl|some v=>
  obtain⟨r,b,c⟩:=zJk v n.From;simp only[AA,EG,BB,b,c];cases f:Ib v n.From
  ·simp only[BB,QD]
   cases g:cU D n.On with
   |none=>rfl|some u=>
    obtain⟨h,d,e4⟩:=zJk u n.At;simp only[AA,BD,d]
    grind
  ·rfl
theorem zIn{l:List zR}(c:l.length<=1000){needs:List zY}(g:needs.length<=1000):∃r,kI l needs=some r/\decide (r<0)=needs.all (jU l):=by
 unfold kI;rcases O1 needs (λx=>!jU l x) (λi _=>(.inl (i:Int):Int⊕Unit)) (λi=>match needs[i]?with|some x=>if(!jU l x)=true then some (.inl (i:Int))else none|none=>none) (λi a=>by rw[CJ a])with⟨i,a,e,d,b⟩|⟨e,d,b⟩
 ·refine⟨(i:Int),?_,?_⟩
  ·refine rW (λ(i:Nat)=>(i:Int)) needs.length (λi=>match needs[i]?with|some x=>if(!jU l x)=true then some (.inl (i:Int))else none|none=>none) (.inr ()) O (λi a=>?_) ?_ (by rw[b];rfl)
   ·have d0:decide ((i:Int)<(needs.length:Int))=true:=BK (by omega)
    simp only[d0,BD,yN a,AA,zV a (by omega),CJ a,zUn c];cases jU l needs[i]<;>rfl
   ·have d0:decide ((needs.length:Int)<(needs.length:Int))=false:=by simp
    simp only[d0,BB]
  ·grind
 ·refine⟨-1,?_,?_⟩
  ·refine rW (λ(i:Nat)=>(i:Int)) needs.length (λi=>match needs[i]?with|some x=>if(!jU l x)=true then some (.inl (i:Int))else none|none=>none) (.inr ()) O (λi a=>?_) ?_ (by rw[b];rfl)
   ·have d0:decide ((i:Int)<(needs.length:Int))=true:=BK (by omega)
    simp only[d0,BD,yN a,AA,zV a (by omega),CJ a,zUn c];cases jU l needs[i]<;>rfl
   ·have d0:decide ((needs.length:Int)<(needs.length:Int))=false:=by simp
    simp only[d0,BB]
  ·have:needs.all (jU l)=true:=List.all_eq_true.2 λx f=>by simpa using d x f
   rw[this];rfl
theorem zNU(p:xH):gQ p=some (uY p:Int):=by
 unfold gQ uY;rw[zLz,zLz,zTu];cases k:rB p.Now
 ·rfl
 cases m:rB p.Next
 ·rfl
 simp only[AA,EG,BB,Bool.and_self,NW,EI];cases n:kQ p.Needs
 ·rfl
 simp only[EG,BB,NW,EI];have o:=X3 k;have q:=X3 m;have r:=zJj n;by_cases g:p.Now.length=p.Next.length
 ·have d:((p.Now.length:Int) !=(p.Next.length:Int))=false:=by simp[g]
  rw[d];simp only[BB];obtain⟨s,t,b4⟩:=zIn (l:=p.Now) (by omega) (needs:=p.Needs) (by omega);obtain⟨u,v,b5⟩:=zIn (l:=p.Next) (by omega) (needs:=p.Needs) (by omega);have e4:decide (s>=0)=!p.Needs.all (jU p.Now):=by rw[<-b4,<-MJ];congr 1;simp
  have e5:decide (u>=0)=!p.Needs.all (jU p.Next):=by rw[<-b5,<-MJ];congr 1;simp
  refine uA (λ(i:Nat)=>(i:Int)) p.Now.length (λi=>match p.Now[i]?,p.Next[i]?with|some x,some y=>!decide (bs x.Name=bs y.Name)|_,_=>false) (.inl 8) (.inr ()) O (λi a=>?_) ?_ ?_
  ·have d0:decide ((i:Int)<(p.Now.length:Int))=true:=BK (by omega)
   have b:i<p.Next.length:=by omega
   simp only[d0,BD,yN a,yN b,AA,zV a (by omega),CJ a,CJ b,dT];cases decide (bs p.Now[i].Name=bs p.Next[i].Name)<;>rfl
  ·grind
  ·have c:(List.range p.Now.length).any (λi=>match p.Now[i]?,p.Next[i]?with|some x,some y=>!decide (bs x.Name=bs y.Name)|_,_=>false)=!decide (wQ p.Now=wQ p.Next):=by
    rw[FK];simp only[JH,JS,JQ,JO];constructor
    ·rintro⟨i,a,h⟩ w
     have b:i<p.Next.length:=by omega
     rw[CJ a,CJ b]at h;simp only[JQ,JO]at h;apply h;have:(wQ p.Now)[i]?=(wQ p.Next)[i]?:=by rw[w]
     simpa[wQ,a,b]using this
    ·intro h
     refine PS λz=>h ?_
     apply FW;intro i;by_cases a:i<p.Now.length
     ·have b:i<p.Next.length:=by omega
      refine PS λf=>z ⟨i,a,?_⟩
      rw[CJ a,CJ b];simp only[JQ,JO];intro e;apply f;simp[wQ,a,b,e]
     ·rw[MP (by simp[wQ];omega),MP (by simp[wQ];omega)]
   rw[c];by_cases j:wQ p.Now=wQ p.Next
   ·simp only[j,LJ,EG,BB,FD,JZ,TY,EI,t,v,AA,e4,e5]
    cases p.Needs.all (jU p.Now)<;>cases p.Needs.all (jU p.Next)<;>rfl
   ·simp only[j,QF,IK,BD,QK,JZ,not_false_eq_true,FO]
    rfl
 ·have d:((p.Now.length:Int) !=(p.Next.length:Int))=true:=by rw[JY];omega
  rw[d]
  have:wQ p.Now≠wQ p.Next:=λh=>by have:=congrArg List.length h;simp[wQ]at this;exact g this
  rw[AQ this];rfl
theorem zVy(p:xH):bF p=some (if uY p=0 then iz (wH p.Now.length (yD p))else[]):=by
 unfold bF;rw[zNU];simp only[AA];by_cases c:uY p=0
 ·have h:=Ov.1 c
  have e:((uY p:Int) !=0)=false:=by rw[c];rfl
  rw[e,AQ c];simp only[BB];have g:=h.WJ;refine xM (λ(i:Nat)=>(iz (wH i (yD p)),(i:Int))) p.Now.length _ (by simp[wH]) (λi b=>?_) ?_ O
  ·have d0:decide ((i:Int)<(p.Now.length:Int))=true:=BK (by omega)
   have j:i<p.Next.length:=by rw[h.len];exact b
   have k:(wH i (yD p)).length<=8:=JU (OL _ _) (by simp;omega);have f:=h.name b
   have d:(yD p).testBit i=!((p.Now[i].Version.CB==p.Next[i].Version.CB)&&((p.Now[i].Version.CG==p.Next[i].Version.CG)&&((p.Now[i].Version.CQ==p.Next[i].Version.CQ)&&true))):=by rw[X8];unfold aK;rw[CJ b,CJ j];simp[b]
   have a:(!((p.Now[i].Name.toList==p.Next[i].Name.toList)&&(((p.Now[i].Version.CB==p.Next[i].Version.CB)&&((p.Now[i].Version.CG==p.Next[i].Version.CG)&&((p.Now[i].Version.CQ==p.Next[i].Version.CQ)&&true)))&&true)))=(yD p).testBit i:=by rw[d,f];simp
   simp only[d0,BD,yN b,yN j,AA,zV b (by omega),a];rw[eW];cases(yD p).testBit i
   ·rfl
   ·simp only[BD]
    rw[wF (by simp;omega) (by simp;omega)];simp[iz]
  ·grind
 ·have e:((uY p:Int) !=0)=true:=by rw[JY];exact_mod_cast c
  rw[e,AP c];rfl
variable{B:xH}
def zUo(m:uY B=0):bR B=some (yD B:Int):=by
 unfold bR;have h:=Ov.1 m;have c:yD B<2^B.Now.length:=Sz _ _;rw[zVy,AQ m];simp only[AA];have k:(wH B.Now.length (yD B)).length<=8:=JU (OL _ _) (by simp;exact h.WJ);generalize p:wH B.Now.length (yD B)=steps at k
 have d:∀i,i∈steps↔(yD B).testBit i=true:=λi=>by rw[<-p];unfold wH;rw[KH];exact⟨λg=>g.2,λg=>⟨by simpa using Y2 c g,g⟩⟩
 suffices q:∃r,bnd (zZ (τ:=Int) (λ(e:Int×Int)=>bif decide (e.2<((iz steps).length:Int))then bnd (CO (iz steps) e.2) λu=>bnd (cK .i64 1 (wrap .u64 u)) λv=>some (.next (GR .i64 e.1 v,wrap .i64 (e.2+1)))else some (.done e.1)) (0,0)) (λw=>some w)=some r/\r=(yD B:Int)by obtain⟨r,x,y⟩:=q;rw[x,y]
 refine lE (λs=>∃T i:Nat,s=((T:Int),(i:Int))/\i<=steps.length/\T<256/\∀j,T.testBit j=decide (j∈steps.take i)) (λs=>steps.length-s.2.toNat) (λt=>t=(yD B:Int)) ⟨0,0,O,by omega,by omega,λj=>by simp⟩ (λs z=>?_) (λt A=>⟨t,O,A⟩);obtain⟨T,i,rfl,C,o,f⟩:=z;by_cases a:i<steps.length
 ·have l:decide ((i:Int)<((iz steps).length:Int))=true:=BK (by simp;omega)
  have b:steps[i]<8:=by have:=Y2 c ((d _).1 (DJ a));have:=h.WJ;omega
  simp only[l,BD,iV a,AA,eA (n:=steps[i]) (by omega),Xq b,Xr o b,zV a (by omega)];refine⟨_,O,⟨T|||2^steps[i],i+1,O,by omega,yAN o b,λj=>?_⟩,?_⟩
  ·rw[FK]
   simp only[X4,f,KZ,FP];have:j∈steps.take (i+1)↔j∈steps.take i\/j=steps[i]:=by rw[xA a,DW,FI]
   rw[this];exact or_congr Iff.rfl ⟨Eq.symm,Eq.symm⟩
  ·omega
 ·have l:decide ((i:Int)<((iz steps).length:Int))=false:=BV (by simp;omega)
  rw[l];refine⟨_,O,?_⟩
  have:T=yD B:=by apply PY;intro j;rw[f,IU (by omega),FK,FP,d]
  rw[this]
def zVS(h:iW B)(g:m<256):cY B (m:Int)=some (mY B m):=by
 unfold cY;have d:=h.len;have j:=h.WJ;rw[wF (by simp;omega) (by simp;omega)];refine xM (λ(i:Nat)=>((i:Int),jd B m i)) B.Now.length _ (by rw[zRi];rfl) (λi c=>?_) ?_ O
 ·have d0:decide ((i:Int)<((jd B m i).length:Int))=true:=BK (by simp;omega)
  have e:i<B.Next.length:=by omega
  have b:i<(jd B m i).length:=by simpa using c
  have f:m/2^i<4611686018427387904:=NK (MF _ _) (by omega);simp only[d0,BD,eA (n:=i) (by omega),yBD (a:=m) (i:=i) (by omega),AA,X6 f,zTX,yN e,yN b,zXi b,zV c (by omega),zRE d c];cases m.testBit i<;>rfl
 ·have d0:decide ((B.Now.length:Int)<((jd B m B.Now.length).length:Int))=false:=BV (by simp)
  simp only[d0,BB,mY]
def zVc(h:iW B)(c:m<256):iE B (m:Int)=some (uK B m):=by unfold iE;obtain⟨r,a,b⟩:=zIn (l:=mY B m) (by have:=h.WJ;simp[mY];omega) (needs:=B.Needs) (by have:=zJj h.needs;omega);rw[zVS h c];simp only[AA,a,b];rfl
def zJJ:decide (m&&&h=m)=true↔VU m h:=by
 rw[FP];constructor
 ·intro a i b
  have:(m&&&h).testBit i=m.testBit i:=by rw[a]
  rw[UI,b]at this;simpa using this
 ·intro a
  apply PY;intro i;rw[UI];cases c:m.testBit i
  ·rfl
  ·rw[a i c];rfl
def zPv{a i:Nat}:(((a&&&2^i:Nat):Int) !=0)=a.testBit i:=by
 rw[FK,JY];constructor
 ·intro h
  cases c:a.testBit i
  ·exfalso
   apply h
   have:a&&&2^i=0:=by
    apply PY;intro j;rw[UI];by_cases b:i=j
    ·subst b;simp[c]
    ·simp[ql b]
   rw[this];rfl
  ·rfl
 ·intro c h
  have d:a&&&2^i=0:=by exact_mod_cast h
  have:(a&&&2^i).testBit i=true:=by rw[UI,c];simp
  rw[d]at this;simp at this
def zQr:(((m&&&2^h:Nat):Int)==0)=!m.testBit h:=by have:=zPv (a:=m) (i:=h);rw[<-this];simp[bne]
def zZW{a:Nat}(b:a<4611686018427387904)(c:m<8):uJ .i64 (a:Int) ((2^m:Nat):Int)=((a&&&2^m:Nat):Int):=zKU b (by have:=X5 c;omega)
def Zv{f:Nat->Bool}{n S:Nat}(h:S<n):CO ((List.range n).map f) (S:Int)=some (f S):=by
 have a:S<((List.range n).map f).length:=by simpa using h
 rw[yN a];simp
def zQY{f:Nat->Bool}(a:h<m)(b:Bool):uF ((List.range m).map f) (h:Int) b=some ((List.range m).map λT=>if T=h then b else f T):=by
 rw[zXi (by simpa using a)];congr 1;apply LZ (by simp);intro i d g;by_cases c:i=h
 ·subst c;simp
 ·rw[wo (λe=>c e.symm)]
  simp[c]
section
def sX(p:xH)(S:Nat):Bool:=decide (S&&&yD p=S)&&(uK p S&&(lst p.Now.length (yD p) (uK p) S).isSome)
def zTc(t:uY B=0)(g:VU m (yD B))(k:uK B m=true):sX B m=(decide (m=yD B)||(List.range B.Now.length).any λi=>(yD B).testBit i&&(!m.testBit i&&sX B (m|||2^i))):=by
 have n:decide (m&&&yD B=m)=true:=zJJ.2 g;by_cases h:m=yD B
 ·unfold sX
  rw[n,k,h,Y1];simp
 ·have o:decide (m=yD B)=false:=BV h
  rw[o,QD];unfold sX;rw[n,k,X9 B.Now.length (yD B) (uK B) g h,GL,GL,FK];rw[Option.isSome_iff_exists,JH];constructor
  ·rintro⟨l,p⟩
   obtain⟨i,j,e,_⟩:=zOV p;split at e
   ·rename_i f
    obtain⟨a,b,c⟩:=jS f;rw[LP]at e;obtain⟨r,q,_⟩:=e;refine⟨i,by simpa using j,?_⟩;rw[a,b,c,q,zJJ.2 (g.or a)];rfl
   ·cases e
  ·rintro⟨i,j,e⟩
   simp only[GX,JQ]at e;obtain⟨a,b,_,c,d⟩:=e;have f:nZ (yD B) (uK B) m i=true:=by unfold nZ;rw[a,b,c];rfl
   cases s:(List.range B.Now.length).findSome? (λi=>if nZ (yD B) (uK B) m i=true then(lst B.Now.length (yD B) (uK B) (m|||2^i)).map (i::·)else none)with
   |some l=>exact⟨l,O⟩|none=>
    have:=RJ.1 s i j;rw[AQ f]at this;rw[rf]at this;rw[this]at d;cases d
def zLu(n:Nat)(f:Nat->Bool):(List.range (n+1)).any f=((List.range n).any f||f n):=by rw[OT,List.any_append];simp
def zMk(w:uY B=0):kT B=some ((List.range (yD B+1)).map (sX B)):=by
 have h:=Ov.1 w;have h8:=h.WJ;have hF:yD B<256:=Ic h.WJ;have M:yD B<2^B.Now.length:=Sz _ _;unfold kT;rw[zUo w];simp only[AA]
 have x:mkS 1 false (wrap .i64 ((yD B:Int)+1)) (wrap .i64 ((yD B:Int)+1))=some ((List.range (yD B+1)).map λS=>false):=by rw[yF (by omega) (by omega)];unfold mkS;rw[AQ ⟨by omega,by omega,by omega,by omega⟩];congr 1;apply LZ (by simp);intro i h1 h2;simp
 rw[x];simp only[AA]
 suffices K:∃r,bnd (zZ (τ:=List Bool) (λ(d:Int×List Bool)=>bif decide (d.1>=0)then bnd (bif((Jc .i64 d.1 (yD B:Int)) !=0)then some true else bnd (iE B d.1) λN=>some (!N):Option Bool) λP=>bif P then some (.next (wrap .i64 (d.1-1),d.2))else(bnd (CO d.2 d.1) λx1=>bnd (uF d.2 d.1 (d.1==(yD B:Int))) λQ=>bnd (zZ (τ:=List Bool) (λ(b:Int×List Bool)=>bif decide (b.1<(B.Now.length:Int))then bnd (cK .i64 1 (wrap .u64 b.1)) λm=>bnd (bif((uJ .i64 (yD B:Int) m) !=0)then bif((uJ .i64 d.1 m)==0)then bnd (CO b.2 (GR .i64 d.1 m)) λy=>some (b.2,y)else(some (b.2,false))else some (b.2,false):Option (List Bool×Bool)) λe=>bif e.2 then bnd (CO e.1 d.1) λR=>bnd (uF e.1 d.1 true) λz=>some (.next (wrap .i64 (b.1+1),z))else(some (.next (wrap .i64 (b.1+1),e.1)))else some (.done b.2)) (0,Q)) λU=>some (.next (wrap .i64 (d.1-1),U)))else some (.done d.2)) ((yD B:Int),(List.range (yD B+1)).map λS=>false)) (λV=>some V)=some r/\r=(List.range (yD B+1)).map (sX B)by obtain⟨r,W,X⟩:=K;rw[W,X]
 refine lE (λs=>∃k:Nat,k<=yD B+1/\s=((k:Int)-1,(List.range (yD B+1)).map λS=>decide (k<=S)&&sX B S)) (λs=>(s.1+1).toNat) (λt=>t=(List.range (yD B+1)).map (sX B)) ⟨yD B+1,by omega,?_⟩ (λs Y=>?_) (λt Z=>⟨t,O,Z⟩)
 ·congr 1
  ·omega
  ·apply MS
   intro S u;have:¬yD B+1<=S:=by simp at u;omega
   simp[this]
 ·obtain⟨k,K,rfl⟩:=Y
  by_cases A:k=0
  ·subst A
   have d0:decide ((((0:Nat):Int)-1)>=0)=false:=by decide
   simp only[d0,BB];refine⟨_,O,?_⟩;apply MS;intro S _;simp
  ·obtain⟨S,rfl⟩:∃S,k=S+1:=⟨k-1,by omega⟩
   have C:((S+1:Nat):Int)-1=(S:Int):=by omega
   rw[C];have d0:decide ((S:Int)>=0)=true:=BK (by omega);have u:S<256:=by omega
   have f:S<yD B+1:=by omega
   have hw:wrap .i64 ((S:Int)-1)=(S:Int)-1:=yF (by omega) (by omega)
   have o:∀l:List Bool,(((S:Int)-1,l).1+1).toNat<(((S:Int),(List.range (yD B+1)).map λT=>decide (S+1<=T)&&sX B T).1+1).toNat:=λl=>by show(((S:Int)-1)+1).toNat<((S:Int)+1).toNat;omega
   have g:sX B S=false->((List.range (yD B+1)).map λT=>decide (S+1<=T)&&sX B T)=(List.range (yD B+1)).map λT=>decide (S<=T)&&sX B T:=λq=>by
    apply MS;intro T _;by_cases p:T=S
    ·subst p;rw[q];simp
    ·have:decide (S+1<=T)=decide (S<=T):=by congr 1;simp only[eq_iff_iff];omega
     rw[this]
   simp only[d0,BD,hw];by_cases c:VU S (yD B)
   ·have D:(Jc .i64 (S:Int) (yD B:Int) !=0)=false:=by
     cases q:(Jc .i64 (S:Int) (yD B:Int) !=0)
     ·rfl
     ·exact absurd c ((zIY (by omega)).1 q)
    rw[D];simp only[BB,zVc h u,AA];cases L:uK B S
    ·refine⟨_,O,⟨S,by omega,?_⟩,o _⟩
     rw[g (by unfold sX;rw[L];simp)]
    ·simp only[EG,BB,Zv f,AA,zQY f]
     have E:zZ (τ:=List Bool) (λ(b:Int×List Bool)=>bif decide (b.1<(B.Now.length:Int))then bnd (cK .i64 1 (wrap .u64 b.1)) λm=>bnd (bif((uJ .i64 (yD B:Int) m) !=0)then bif((uJ .i64 (S:Int) m)==0)then bnd (CO b.2 (GR .i64 (S:Int) m)) λy=>some (b.2,y)else(some (b.2,false))else some (b.2,false):Option (List Bool×Bool)) λe=>bif e.2 then bnd (CO e.1 (S:Int)) λR=>bnd (uF e.1 (S:Int) true) λz=>some (.next (wrap .i64 (b.1+1),z))else(some (.next (wrap .i64 (b.1+1),e.1)))else some (.done b.2))
       (0,(List.range (yD B+1)).map λT=>if T=S then(S:Int)==(yD B:Int)else decide (S+1<=T)&&sX B T)=some ((List.range (yD B+1)).map λT=>if T=S then sX B S else decide (S+1<=T)&&sX B T):=by
      have h0:((List.range (yD B+1)).map λT=>if T=S then(S:Int)==(yD B:Int)else decide (S+1<=T)&&sX B T)=((List.range (yD B+1)).map λT=>if T=S then decide (S=yD B)||(List.range 0).any λj=>(yD B).testBit j&&(!S.testBit j&&sX B (S|||2^j))else decide (S+1<=T)&&sX B T):=by
       have:((S:Int)==(yD B:Int))=decide (S=yD B):=by rw[FK,KL,FP];omega
       rw[this];simp
      rw[h0];refine rF (λi:Nat=>((i:Int),(List.range (yD B+1)).map λT=>if T=S then decide (S=yD B)||(List.range i).any λj=>(yD B).testBit j&&(!S.testBit j&&sX B (S|||2^j))else decide (S+1<=T)&&sX B T)) B.Now.length (λi hi=>?_) ?_
      ·have v:i<8:=by omega
       have F:decide ((i:Int)<(B.Now.length:Int))=true:=BK (by omega);simp only[F,BD,eA (n:=i) (by omega),Xq v,AA,zZW (a:=yD B) (by omega) v,zPv,zZW (a:=S) (by omega) v,zQr,Xr u v,zV hi (by omega)];rw[zLu];cases G:(yD B).testBit i
       ·simp
       ·cases H:S.testBit i
        ·have hlt:=Tc H
         have hle:=(c.or G).le;have I:¬(S|||2^i)=S:=by omega
         have J:decide (S+1<=S|||2^i)=true:=BK (by omega);simp only[IK,BD,Zv (n:=yD B+1) (S:=S|||2^i) (by omega),AA,I,EI,J,GL];cases q:sX B (S|||2^i)
         ·simp
         ·simp only[BD,Zv f,AA,zQY f]
          congr 3;apply MS;intro T _;by_cases p:T=S
          ·simp[p]
          ·simp[p]
        ·simp
      ·have F:decide ((B.Now.length:Int)<(B.Now.length:Int))=false:=by simp
       simp only[F,BB];rw[<-zTc w c L]
     rw[E];simp only[AA];refine⟨_,O,⟨S,by omega,?_⟩,o _⟩;congr 1;apply MS;intro T _;by_cases p:T=S
     ·subst p;simp
     ·have:decide (S+1<=T)=decide (S<=T):=by congr 1;simp only[eq_iff_iff];omega
      simp[p,this]
   ·have D:(Jc .i64 (S:Int) (yD B:Int) !=0)=true:=(zIY (by omega)).2 c
    rw[D];simp only[BD,AA];refine⟨_,O,⟨S,by omega,?_⟩,o _⟩
    rw[g (by
     unfold sX
     have:decide (S&&&yD B=S)=false:=by
      cases q:decide (S&&&yD B=S)
      ·rfl
      ·exact absurd (zJJ.1 q) c
     rw[this];rfl)]
def zIm(p:xH):pO p=some (if uY p=0 then match Eu p with|some l=>(iz l,0)|none=>([],41)else([],(uY p:Int))):=by
 unfold pO;rw[zNU];simp only[AA];by_cases w:uY p=0
 ·have h:=Ov.1 w
  have h8:=h.WJ;have hF:yD p<256:=Ic h.WJ;have hFn:yD p<2^p.Now.length:=Sz _ _;have e:((uY p:Int) !=0)=false:=by rw[w];rfl
  rw[e,AQ w,zMk w,zUo w];have e0:CO ((List.range (yD p+1)).map (sX p)) 0=some (sX p 0):=Zv (S:=0) (by omega);simp only[BB,AA,e0]
  have K:sX p 0=(Eu p).isSome:=by unfold sX Eu;rw[yCf h];simp
  rw[K];cases W:Eu p with
  |none=>rfl|some l=>
   simp only[XO,EG,BB];have VK:=zLF W;have hll:=zLP w VK
   suffices X:∃r,bnd (zZ (τ:=List Int) (λ(H:List Int×Int)=>bif(H.2 !=(yD p:Int))then bnd (zZ (τ:=List Int×Int) (λ(d:List Int×Int×Int)=>bif decide (d.2.2<(p.Now.length:Int))then bnd (cK .i64 1 (wrap .u64 d.2.2)) λf=>bnd (bif((uJ .i64 (yD p:Int) f) !=0)then bif((uJ .i64 d.2.1 f)==0)then bnd (CO ((List.range (yD p+1)).map (sX p)) (GR .i64 d.2.1 f)) λz=>some z else(some false)else some false:Option Bool) λA=>bif A then bnd (app 8 d.1 [d.2.2]) λB=>some (.done (B,GR .i64 d.2.1 f))else(some (.next (d.1,d.2.1,wrap .i64 (d.2.2+1))))else some (.done (d.1,d.2.1))) (H.1,H.2,0)) λY=>some (.next (Y.1,Y.2))else some (.done H.1)) ([],0)) (λo1=>some (o1,(0:Int)))=some r/\r=(iz l,0)by obtain⟨r,g1,g2⟩:=X;rw[g1,g2]
   refine lE (λs=>∃(M L:List Nat) (S:Nat),s=(iz M,(S:Int))/\l=M++L/\VU S (yD p)/\lst p.Now.length (yD p) (uK p) S=some L) (λs=>300-s.2.toNat) (λt=>t=iz l) ⟨[],l,0,O,O,VU.zero _,W⟩ (λs hI=>?_) (λt ht=>⟨_,O,by rw[ht]⟩);obtain⟨M,L,S,rfl,N,D,C⟩:=hI;have hle:=D.le;have hS:S<256:=by omega
   by_cases P:S=yD p
   ·have d0:((S:Int) !=(yD p:Int))=false:=by rw[P];simp
    rw[d0];rw[P,Y1]at C;injection C with C;subst C;exact⟨_,O,by rw[N];simp⟩
   ·have d0:((S:Int) !=(yD p:Int))=true:=by rw[JY];omega
    rw[d0];simp only[BD];rw[X9 p.Now.length (yD p) (uK p) D P]at C;obtain⟨i,Z,I,h2⟩:=zOV C;split at I
    ·rename_i E
     obtain⟨a,b,c⟩:=jS E;rw[LP]at I;obtain⟨Q,h3,h4⟩:=I;have hlt:=Tc b;have x:=D.or a;have hle2:=x.le;have hMl:M.length<=8:=by have:=congrArg List.length N;simp at this;omega
     have y:∀j,j<p.Now.length->((yD p).testBit j&&(!S.testBit j&&sX p (S|||2^j)))=(if nZ (yD p) (uK p) S j=true then(lst p.Now.length (yD p) (uK p) (S|||2^j)).map (j::·)else none).isSome:=λj F=>by
      cases g:(yD p).testBit j
      ·have:nZ (yD p) (uK p) S j=false:=by unfold nZ;rw[g];rfl
       rw[this];rfl
      ·cases q:S.testBit j
       ·have R:decide ((S|||2^j)&&&yD p=S|||2^j)=true:=zJJ.2 (D.or g)
        cases J:uK p (S|||2^j)
        ·have:nZ (yD p) (uK p) S j=false:=by unfold nZ;rw[g,q,J];rfl
         rw[this];unfold sX;rw[J];simp
        ·have:nZ (yD p) (uK p) S j=true:=by unfold nZ;rw[g,q,J];rfl
         rw[AQ this];unfold sX;rw[J,R];simp
       ·have:nZ (yD p) (uK p) S j=false:=by unfold nZ;rw[q];simp
        rw[this];rfl
     have Qe:zZ (τ:=List Int×Int) (λ(d:List Int×Int×Int)=>bif decide (d.2.2<(p.Now.length:Int))then bnd (cK .i64 1 (wrap .u64 d.2.2)) λf=>bnd (bif((uJ .i64 (yD p:Int) f) !=0)then bif((uJ .i64 d.2.1 f)==0)then bnd (CO ((List.range (yD p+1)).map (sX p)) (GR .i64 d.2.1 f)) λz=>some z else(some false)else some false:Option Bool) λA=>bif A then bnd (app 8 d.1 [d.2.2]) λB=>some (.done (B,GR .i64 d.2.1 f))else(some (.next (d.1,d.2.1,wrap .i64 (d.2.2+1))))else some (.done (d.1,d.2.1))) (iz M,(S:Int),0)=some (iz (M++[i]),((S|||2^i:Nat):Int)):=by
      have m:∀j,j<p.Now.length->∀(v:Bool),v=((yD p).testBit j&&(!S.testBit j&&sX p (S|||2^j)))->(bnd (cK .i64 1 (wrap .u64 (j:Int))) λf=>bnd (bif((uJ .i64 (yD p:Int) f) !=0)then bif((uJ .i64 (S:Int) f)==0)then bnd (CO ((List.range (yD p+1)).map (sX p)) (GR .i64 (S:Int) f)) λz=>some z else(some false)else some false:Option Bool) λA=>bif A then bnd (app 8 (iz M) [(j:Int)]) λB=>some (wZ.done (σ:=List Int×Int×Int) (B,GR .i64 (S:Int) f))else some (.next (iz M,(S:Int),wrap .i64 ((j:Int)+1))))=some (bif v then wZ.done (iz (M++[j]),((S|||2^j:Nat):Int))else .next (iz M,(S:Int),((j+1:Nat):Int))):=λj F v T=>by
       have u:j<8:=by omega
       simp only[eA (n:=j) (by omega),Xq u,AA,zZW (a:=yD p) (by omega) u,zPv,zZW (a:=S) (by omega) u,zQr,Xr hS u,zV F (by omega)];have U:app 8 (iz M) [(j:Int)]=some (iz (M++[j])):=by rw[wF (by simp;omega) (by simp;omega)];simp[iz]
       rw[U];subst T;cases g:(yD p).testBit j
       ·rfl
       ·cases q:S.testBit j
        ·have:=(D.or g).le
         simp only[IK,BD,Zv (n:=yD p+1) (S:=S|||2^j) (by omega),AA,GL];cases sX p (S|||2^j)<;>rfl
        ·rfl
      have G:∀k,k<=i->zZ (τ:=List Int×Int) (λ(d:List Int×Int×Int)=>bif decide (d.2.2<(p.Now.length:Int))then bnd (cK .i64 1 (wrap .u64 d.2.2)) λf=>bnd (bif((uJ .i64 (yD p:Int) f) !=0)then bif((uJ .i64 d.2.1 f)==0)then bnd (CO ((List.range (yD p+1)).map (sX p)) (GR .i64 d.2.1 f)) λz=>some z else(some false)else some false:Option Bool) λA=>bif A then bnd (app 8 d.1 [d.2.2]) λB=>some (.done (B,GR .i64 d.2.1 f))else(some (.next (d.1,d.2.1,wrap .i64 (d.2.2+1))))else some (.done (d.1,d.2.1))) (iz M,(S:Int),((i-k:Nat):Int))=some (iz (M++[i]),((S|||2^i:Nat):Int)):=by
       intro k;induction k with
       |zero=>
        intro _;refine yV ?_;have V:decide (((i-0:Nat):Int)<(p.Now.length:Int))=true:=BK (by omega);simp only[V,BD]
        have o:true=((yD p).testBit i&&(!S.testBit i&&sX p (S|||2^i))):=by rw[y i Z,AQ E,h3];rfl
        exact m i Z true o
       |succ k ih=>
        intro X;have F:i-(k+1)<p.Now.length:=by omega
        refine xV (s':=(iz M,(S:Int),((i-k:Nat):Int))) ?_ (ih (by omega));have V:decide (((i-(k+1):Nat):Int)<(p.Now.length:Int))=true:=BK (by omega);simp only[V,BD]
        have o:false=((yD p).testBit (i-(k+1))&&(!S.testBit (i-(k+1))&&sX p (S|||2^(i-(k+1))))):=by rw[y _ F,h2 _ (by omega)];rfl
        have:=m _ F false o;rw[show i-(k+1)+1=i-k by omega]at this;exact this
      have:=G i (FN i);rw[KI]at this;exact this
     rw[Qe];refine⟨_,O,⟨M++[i],Q,S|||2^i,O,?_,x,h3⟩,?_⟩
     ·rw[N,<-h4];simp
     ·show 300-((S|||2^i:Nat):Int).toNat<300-((S:Nat):Int).toNat
      omega
    ·cases I
 ·have e:((uY p:Int) !=0)=true:=by rw[JY];exact_mod_cast w
  rw[e,AP w];rfl
end
variable{A:yM}
theorem zXk(t:D.length<=8)(u:oG (D.map (·.Name)))(H:A.BA.length<=8)(v:oG (A.BA.map (·.Name)))(m:Int×List zR->Option (wZ (Int×List zR) ((xH×Int)⊕List zR)))(w:∀(i k:Nat) (l:List zR) (b:i<A.BA.length) (f:k<l.length),l.map (·.Name)=D.map (·.Name)->l[k].Name=A.BA[i].Name->m ((i:Int),l)=some (.next (((i+1:Nat):Int),l.set k ⟨A.BA[i].Name,A.BA[i].Version⟩)))(z:∀(i:Nat) (l:List zR) (b:i<A.BA.length),l.map (·.Name)=D.map (·.Name)->(∀c∈l,c.Name≠A.BA[i].Name)->m ((i:Int),l)=some (.done (.inl (⟨[],[],[]⟩,8))))(B:∀l,m ((A.BA.length:Int),l)=some (.done (.inr l))):zZ m (0,D)=some (if(A.BA.all λx=>Iq D x.Name)=true then .inr (pF D A.BA)else .inl (⟨[],[],[]⟩,8)):=by
 have key:∀(r i:Nat),i+r=A.BA.length->((A.BA.take i).all λx=>Iq D x.Name)=true->zZ m ((i:Int),pF D (A.BA.take i))=some (if(A.BA.all λx=>Iq D x.Name)=true then .inr (pF D A.BA)else .inl (⟨[],[],[]⟩,8)):=by
  intro r;induction r with
  |zero=>
   intro i o a;obtain rfl:i=A.BA.length:=by omega
   rw[GU]at a⊢;rw[AQ a];exact yV (B _)
  |succ r C=>
   intro i o a;have b:i<A.BA.length:=by omega
   have q:A.BA.take (i+1)=A.BA.take i++[A.BA[i]]:=xA b;by_cases s:∃k,∃h:k<D.length,D[k].Name=A.BA[i].Name
   ·obtain⟨k,d,e⟩:=s
    have f:k<(pF D (A.BA.take i)).length:=by simpa using d
    refine xV (s':=(((i+1:Nat):Int),pF D (A.BA.take (i+1)))) ?_ (C (i+1) (by omega) ?_)
    ·rw[w i k _ b f (zEI _ _) (by rw[zHJ _ d];exact e),zNh u (λy hy g=>?_) d e,q]
     obtain⟨j,E,n⟩:=IZ.1 hy;rw[DV]at E;rw[RX]at n;have:=fS v (i:=j) (j:=i) (by rw[FQ];omega) (by rw[FQ];omega) (by rw[IE,IE,n,g]);omega
    ·rw[q,List.all_append,a]
     simp;exact JH.2 ⟨D[k],DJ d,BK e⟩
   ·rw[AP]
    ·refine yV (z i _ b (zEI _ _) λc p g=>s ?_)
     obtain⟨k,f,rfl⟩:=IZ.1 p;exact⟨k,by simpa using f,by rw[zHJ _ (by simpa using f)]at g;exact g⟩
    ·intro F
     have:=List.all_eq_true.1 F _ (DJ b);obtain⟨c,p,G⟩:=JH.1 this;obtain⟨k,f,g⟩:=IZ.1 p
     grind
 have:=key A.BA.length 0 (by omega) O;rw[SI,zOb]at this;exact this
theorem zWy(c:A.Needs.length<=16){N:List zY}(m:Int->Option (wZ Int ((xH×Int)⊕Unit)))(d:∀(i:Nat) (a:i<A.Needs.length),m (i:Int)=some (bif !N.any (RD A.Needs[i])then .done (.inl (⟨[],[],[]⟩,42))else .next ((i+1:Nat):Int)))(b:m (A.Needs.length:Int)=some (.done (.inr ()))):zZ m 0=some (if(A.Needs.all λx=>N.any (RD x))=true then .inr ()else .inl (⟨[],[],[]⟩,42)):=by
 refine(Wu (λi=>(i:Int)) A.Needs.length (λi=>match A.Needs[i]?with|some x=>!N.any (RD x)|none=>false) (u:=.inl (⟨[],[],[]⟩,42)) (t:=.inr ()) (λi a=>?_) b).trans ?_
 ·grind
 ·rw[Wv A.Needs (λx=>!N.any (RD x)) _ λi a=>by rw[CJ a]]
  grind
theorem zXx(x y:zY):RD x y=RD y x:=by
 unfold RD
 grind
variable{o:zH}
theorem yBc(u:o.devices.length<=8)(n:ByteArray)(g:wY o.devices=D)(s:oG (D.map (·.Name))){l:List zR}(d:l.map (·.Name)=D.map (·.Name)):(∀k,(t:k<l.length)->l[k].Name=n->oE o n=some (k:Int))/\((∀c∈l,c.Name≠n)->oE o n=some (-1)):=by
 have m:l.length=o.devices.length:=by have:=congrArg List.length d;rw[FQ,FQ,<-g]at this;simpa[wY]using this
 have e:∀j,(h:j<o.devices.length)->o.devices[j].Name=(l[j]'(by omega)).Name:=λj h=>by
  have p:(l.map (·.Name))[j]?=(D.map (·.Name))[j]?:=by rw[d]
  rw[IJ,IJ,<-g]at p;unfold wY at p
  grind
 unfold oE;refine⟨λk t q=>?_,λf=>?_⟩
 ·refine yL (a:=.inl (k:Int)) (rF (λi=>(i:Int)) k (λi b=>?_) ?_) O
  ·rw[BK (by omega:(i:Int)<(o.devices.length:Int)),BD,yN (by omega),AA,gV,BV,BB,zV b (by omega)]
   intro r;rw[e i (by omega)]at r;have:=fS (d▸s) (i:=i) (j:=k) (by rw[FQ];omega) (by rw[FQ];omega) (by rw[IE,IE,r,q]);omega
  ·rw[BK (by omega:(k:Int)<(o.devices.length:Int)),BD,yN (by omega),AA,gV,BK (by rw[e k (by omega)];exact q),BD]
 ·refine xM (λi=>(i:Int)) o.devices.length (.inr ()) O (λi b=>?_) ?_ O
  ·rw[BK (by omega:(i:Int)<(o.devices.length:Int)),BD,yN b,AA,gV,BV (by rw[e i b];exact f _ (DJ _)),BB,zV b (by omega)]
  ·grind
theorem yCG{a:zH}(r:a.devices.length<=8)(f:oG ((wY a.devices).map (·.Name)))(u:a.needs.length<=16)(t:A.BA.length<=8)(g:A.Needs.length<=16)(e:oG (A.BA.map (·.Name))):oL a A=some (dV (wY a.devices) a.needs A):=by
 unfold oL dV;rw[yAS (by omega),AA,AA,show eI a.devices=wY a.devices from O];generalize h:wY a.devices=now at*;have m:now.length<=8:=by rw[<-h];simp[wY];omega
 refine yL (zXk m f t e _ (λi k l c n o s=>?_) (λi l c o p=>?_) (λl=>?_)) ?_
 ·simp only
  rw[BK (by omega:(i:Int)<(A.BA.length:Int)),BD,yN c,AA,(yBc r _ h f o).1 k n s,AA,BV (by omega:¬(k:Int)<0),BB,AA,yN n,AA,AA,uS n,AA,zV c (by omega),s]
 ·simp only
  rw[BK (by omega:(i:Int)<(A.BA.length:Int)),BD,yN c,AA,(yBc r _ h f o).2 p,AA];rfl
 ·grind
 by_cases b:(A.BA.all λx=>Iq now x.Name)=true
 ·rw[AQ b,AQ b,FD]
  refine yL (zWy g (N:=a.needs) _ (λi e=>?_) ?_) ?_
  ·rw[BK (by omega:(i:Int)<(A.Needs.length:Int)),BD]
   refine yL (a:=a.needs.any (RD A.Needs[i])) ?_ (by rw[zV e (by omega)];cases a.needs.any (RD A.Needs[i])<;>rfl);refine rF (λj=>((a.needs.take j).any (RD A.Needs[i]),(j:Int))) a.needs.length (λj q=>?_) ?_
   ·simp only
    rw[BK (by omega:(j:Int)<(a.needs.length:Int)),BD,yN q,yN e,AA,AA,zV q (by omega),xA q,List.any_append];cases(a.needs.take j).any (RD A.Needs[i])
    ·show some (wZ.next (RD a.needs[j] A.Needs[i],_))=_
     rw[zXx];simp
    ·rfl
   ·grind
  ·rw[BV (by omega:¬(A.Needs.length:Int)<(A.Needs.length:Int)),BB]
  ·by_cases d:(A.Needs.all λx=>a.needs.any (RD x))=true
   ·rw[AQ d,AQ d,FD]
   ·rw[AP d,AP d]
    rfl
 ·rw[AP b,AP b]
  rfl
theorem yAP{a:zH}(e:a.store=true)(g:a.mask=(m:Int))(c:m<256)(j:f.length<=8)(h:∀i∈f,i<8){ph:Nat}(hp:ph<256)(s:zG)(b:yB):rM a (ph:Int) (iz f) s b=xL s [⟨32,(ph:Int)::(m:Int)::iz f,false⟩] b:=by
 unfold rM;rw[g,e,dQ hp,dQ c];refine yL (rF (λi=>((ph:Int)::(m:Int)::iz (f.take i),(i:Int))) f.length (t:=(ph:Int)::(m:Int)::iz f) (λi d=>?_) ?_) ?_
 ·simp only
  have k:=h _ (DJ d);rw[ES,BK (by omega:(i:Int)<(f.length:Int)),BD,iV d,AA,dQ (by omega),wF (by simp;omega) (by simp;omega),AA,zV d (by omega),xA d,<-mK];rfl
 ·simp_all
 ·exact Ru _
theorem zXM(b:yM)(s:ByteArray)(a:b.BA.length<=1000000):U3 b s=some (Ub b.BA s):=by
 refine zNf b.BA s a _ (λi c=>?_) (by simp);rw[show decide ((i:Int)<(b.BA.length:Int))=true from BK (by omega)];refine yL (yN c) ?_
 grind
def jf(L:List zA)(l:List zO)(F i:Nat):List zA:=L.mapIdx λj d=>if j<i/\F.testBit j=true then Ba l d else d
theorem Ku(L:List zA)(l:List zO)(F i j:Nat):(jf L l F i)[j]?=L[j]?.map λd=>if j<i/\F.testBit j=true then Ba l d else d:=by
 unfold jf
 grind
def zJI(L:List zA)(l:List zO)(F i:Nat):(jf L l F i).length=L.length:=by simp[jf]
variable{L:List zA}
theorem zWG(l:List zO)(F:Nat){d:zA}(a:L[m]?=some d):jf L l F (m+1)=if F.testBit m=true then(jf L l F m).set m (Ba l d)else jf L l F m:=by
 apply FW;intro j;have b:=(FT.1 a).1;by_cases c:m=j
 ·subst c
  by_cases h:F.testBit m=true
  ·rw[AQ h,RN (by rw[zJI];exact b),Ku,a,DR,AQ ⟨by omega,h⟩]
  ·rw[AP h,Ku,Ku,a,DR,DR,AP (λe=>h e.2),AP (λe=>h e.2)]
 ·have:(jf L l F (m+1))[j]?=(jf L l F m)[j]?:=by
   rw[Ku,Ku]
   grind
  grind
theorem yAk(a:zD)(B:yM):jf a.devices B.BA (yD (uT a B)) a.devices.length=oR a B:=by
 apply FW;intro j;rw[Ku,Zi]
 grind
def zYn(L:List zA)(l:List zO)(F:Nat):jf L l F 0=L:=by apply FW;intro j;rw[Ku];simp
def zXr(l:List zO)(d:zA):(Ba l d).Active=d.Active:=by unfold Ba;cases Gq l d.Name<;>rfl
def yAo(a:zD)(B:yM):fO (oR a B) (oR a B).length=fO a.devices a.devices.length:=by
 unfold fO;rw[OZ];congr 1;funext i;rw[Zi];cases a.devices[i]?with
 |none=>rfl|some d=>
  simp;split
  ·rw[zXr]
  ·rfl
def Zw(b:zH)(L:List zA):zH:=⟨b.store,L,b.needs,b.phase,b.AZ,b.mask,b.order⟩
variable{q:zD}
def zZr(u:DL q.devices)(j:tG A=0)(K:o.devices=q.devices)(m:zH×Int×Int->Option (wZ (zH×Int×Int) (zH×Int)))(D:∀a,m a=bif decide (a.2.2<(a.1.devices.length:Int))then bnd (CO a.1.devices a.2.2) λv=>bnd (cK .i64 v.Active (wrap .u64 a.2.2)) λp=>bnd (U3 A v.Name) λE=>bnd (CO (uT q A).Now a.2.2) λr=>bnd (CO (uT q A).Next a.2.2) λs=>bif((r.Name.toList==s.Name.toList)&&(((r.Version.CB==s.Version.CB)&&((r.Version.CG==s.Version.CG)&&((r.Version.CQ==s.Version.CQ)&&true)))&&true))then some (.next (a.1,GR .i64 a.2.1 p,wrap .i64 (a.2.2+1)))else(bnd (gU v) λL=>bnd (CO A.BA E) λF=>bnd (gG L.1 F (F.Data.length:Int)) λM=>bnd (CO A.BA E) λN=>bnd (lG N) λw=>bnd (jO M.1 w) λy=>bnd (CO a.1.devices a.2.2) λx6=>bnd (uF a.1.devices a.2.2 y.1) λP=>some (.next ((⟨a.1.store,P,a.1.needs,a.1.phase,a.1.AZ,a.1.mask,a.1.order⟩:zH),GR .i64 a.2.1 p,wrap .i64 (a.2.2+1))))else some (.done (a.1,a.2.1))):zZ m (o,0,0)=some (Zw o (oR q A),((fO (oR q A) (oR q A).length:Nat):Int)):=by
 have h8:=u.le
 have Q:(o,(0:Int),(0:Int))=(Zw o (jf q.devices A.BA (yD (uT q A)) 0),((fO q.devices 0:Nat):Int),((0:Nat):Int)):=by rw[zYn,<-K];rfl
 rw[Q,yAo,<-yAk];refine rF (λi=>(Zw o (jf q.devices A.BA (yD (uT q A)) i),((fO q.devices i:Nat):Int),(i:Int))) q.devices.length (λi l=>?_) ?_
 ·have e:=CJ l
  have z:=u.je _ (DJ l);rw[zWG _ _ e,D];generalize R:q.devices[i]=d at*
  have B:CO (jf q.devices A.BA (yD (uT q A)) i) (i:Int)=some d:=by rw[IA,Ku,e,DR,AP (by omega)]
  have hp:2^i<=128:=by have:2^i<=2^7:=OM (by omega) (by omega);omega
  have S:fO q.devices i<256:=Ic (by omega)
  have g:fO q.devices (i+1)=if d.Active=1 then fO q.devices i|||2^i else fO q.devices i:=by unfold fO;rw[Xp,e];simp
  have T:∃c:Nat,cK .i64 d.Active (wrap .u64 (i:Int))=some (c:Int)/\GR .i64 ((fO q.devices i:Nat):Int) (c:Int)=((fO q.devices (i+1):Nat):Int):=by
   rw[eA (by omega),g];rcases z.vd.ba with n|n
   ·refine⟨0*2^i,?_,?_⟩
    ·rw[n,show(0:Int)=((0:Nat):Int)from O,zKG (by omega) (by omega)]
    ·rw[Nq (by omega) (by omega),n];simp
   ·refine⟨1*2^i,?_,?_⟩
    ·rw[n,show(1:Int)=((1:Nat):Int)from O,zKG (by omega) (by omega)]
    ·rw[QG,Nq (by omega) (by omega),n];simp
  obtain⟨c,p,G⟩:=T;have C:(wY q.devices)[i]?=some ⟨d.Name,qW d⟩:=by rw[wY,IJ,e];rfl
  have H:(pF (wY q.devices) A.BA)[i]?=some ⟨d.Name,Fb A.BA d.Name (qW d)⟩:=by rw[pF,IJ,C];rfl
  have f:(yD (uT q A)).testBit i=aK (uT q A) i:=by rw[X8,show decide (i<(uT q A).Now.length)=true from BK (by show i<(wY q.devices).length;simp[wY];omega),GL]
  have h:aK (uT q A) i=!(((qW d).CB==(Fb A.BA d.Name (qW d)).CB)&&(((qW d).CG==(Fb A.BA d.Name (qW d)).CG)&&(((qW d).CQ==(Fb A.BA d.Name (qW d)).CQ)&&true))):=by unfold aK uT;rw[C,H]
  refine(yT (BK ?_) _ _).trans ?_
  ·show(i:Int)<((jf q.devices A.BA (yD (uT q A)) i).length:Int)
   rw[zJI];omega
  simp only[Zw];rw[B,AA,p,AA,zXM _ _ (by have:=(Ez j).2.1;omega),AA,show(uT q A).Now=wY q.devices from O,show(uT q A).Next=pF (wY q.devices) A.BA from O,IA,C,AA,IA,H,AA];simp only[XY,GL];by_cases b:(yD (uT q A)).testBit i=true
  ·rw[AQ b]
   rw[f,h]at b;obtain⟨_,x,t,I,J,U,_⟩:=zJG u j (i:=i) (by rw[f,h];exact b);rw[e]at t;injection t with t;subst t;obtain⟨k,V,W,z2,X⟩:=zLG (gP j) I;obtain⟨d1,d2,Y,Z,w3,w4,w5⟩:=zXK z ((Ez j).2.2.1 x J) U;rw[yI (by revert b;simp only[Bool.and_true,JQ,imp_self]),zWm z.sm,AA,Y,X,yN V,W,AA,zVJ w4 (zBg ((Ez j).2.2.1 x J)),AA,Z,AA,V6,AA,zTf w5,AA,w3,AA,uS (by rw[zJI];exact l),AA,G,zV l (by omega)];unfold Ba;rw[I]
  ·rw[AP b]
   rw[f,h]at b;rw[yT (by revert b;simp),G,zV l (by omega)]
 ·rw[D]
  refine yI (BV ?_) _ _;show¬(q.devices.length:Int)<((jf q.devices A.BA (yD (uT q A)) q.devices.length).length:Int);rw[zJI];omega
def yBU(a:DL q.devices)(b:tG A=0):DL (oR q A):=by
 refine⟨by rw[OZ];exact a.pos,by rw[OZ];exact a.le,?_,zJO a b⟩
 have:(oR q A).map (·.Name)=q.devices.map (·.Name):=by
  apply FW;intro i;rw[IJ,IJ,Zi];cases q.devices[i]?with
  |none=>rfl|some d=>
   simp;split
   ·unfold Ba
    cases Gq A.BA d.Name<;>rfl
   ·rfl
 rw[this];exact a.names
def RF(L:List zA)(N:List zY)(a:List Nat)(m c:Nat)(b:Int):zH:=⟨true,NH L a c,N,b,WM,(m:Int),iz a⟩
variable{N:List zY}
def zQn(b:RA q o N)(y:DL q.devices)(R:tH N=true)(s:zE)(d:zB)(t:zG)(f:yB):(∃e,xO q s d=some (q,s,d,e)/\wD o t f=some (o,t,f,e))\/(∃J K,xO q s d=some (J,s,d,0)/\wD o t f=some (K,t,f,0)/\RA J K N/\Qt q J o K)\/∃L n m g,q.phase=1/\nN L n m/\n≠[]/\DL L/\xO q s d=(bnd (yK s [⟨32,2::(m:Int)::iz n,false⟩] d) λr=>if r.2.2=0 then some (KG L N n m 0 2,r.1,r.2.1,0)else some (⟨true,L,N,1,q.load,(m:Int),iz n⟩,r.1,r.2.1,r.2.2))/\wD o t f=(bnd (xL t [⟨32,2::(m:Int)::iz n,false⟩] f) λr=>if r.2.2=0 then some (RF L N n m 0 2,r.1,r.2.1,0)else some (⟨true,L,N,1,o.AZ,(m:Int),g⟩,r.1,r.2.1,r.2.2)):=by
 by_cases c:q.phase=1
 case neg=>
  refine .inl ⟨46,?_,?_⟩
  ·unfold xO
   rw[show(q.phase !=1)=true by simpa using c];rfl
  ·unfold wD
   rw[b.ph,show(q.phase !=1)=true by simpa using c];rfl
 obtain⟨B,z,p,u⟩:=b.dl c;have hz:=u.z2;by_cases k:Uh q.load=true
 case neg=>
  refine .inl ⟨46,?_,?_⟩
  ·unfold xO
   rw[c,zYC u,AA,Bool.eq_false_iff.2 k];rfl
  ·unfold wD
   rw[b.ph,c,B,zXS u,AA,Bool.eq_false_iff.2 k];rfl
 obtain⟨j,S,x⟩:=zPu u.rg
 have M:j.length<=8192:=by have:=u.da;rw[x,ES]at this;omega
 have C:=yBN u;rw[AQ k,x]at C;have D:=yBl u;rw[AQ k,x]at D;have E:=zYC u;have F:=zXS u;rw[k]at E F
 have v:(qP j).2=0->oL o (qP j).1=some (dV (wY q.devices) q.needs (qP j).1):=λG=>by have A:=zOp G;obtain⟨Y,U,Z,V,v5⟩:=Ez A;have P:N.length<=16:=OJ (JV.1 R).1;have:=yCG (a:=o) (by rw[b.dev];exact y.le) (by rw[b.dev,zLo];exact zDY y.names) (by rw[b.nb];exact P) U V (gP A);rw[this,b.dev,b.nb,b.na]
 have Q:pO (uT q (qP j).1)=tU (uT q (qP j).1):=by rw[zIm,zPF];rfl
 have pre:wD o t f=wD o t f:=rfl
 conv at pre=>rhs;unfold wD
 rw[b.ph,c,B,F,AA,D,show(bif((1:Int) !=1)then some true else some (!true):Option Bool)=some false from O,AA,BB,AA,zSC S (by omega),AA]at pre;rw[pre];clear pre;rcases zOS y b.sa (by rw[b.na];exact R) S M c E C s d with⟨e,G,h1,w⟩|⟨g1,g2,g3,g4,g5⟩|⟨g1,g2,g3,n,g4,g5,g6⟩
 ·refine .inl ⟨e,h1,?_⟩
  rcases w with w|⟨w,⟨H,T⟩|⟨H,T⟩⟩
  ·rw[yT (by rw[w];simpa using G),w]
  ·rw[yI (by simpa using w),v w,AA,yT (by rw[H];simpa using G),H]
  ·rw[yI (by simpa using w),v w,AA,yI (by simpa using H),zHr H]
   show bnd (pO (uT q (qP j).1)) _=_;rw[Q,T,AA,yT (by simpa using G)]
 ·refine .inr (.inl ⟨_,⟨o.store,o.devices,o.needs,0,WM,o.mask,o.order⟩,g5,?_,⟨b.sa,b.sb,b.dev,b.na,b.nb,O,by simp,(λh=>by simp at h),(λh=>by simp at h),λ_=>b.io (.inr c)⟩,.inr ⟨.inr c,.inl O,O⟩⟩)
  rw[yI (by simpa using g1),v g1,AA,yI (by simpa using g2),zHr g2];show bnd (pO (uT q (qP j).1)) _=_;rw[zIm,AQ g3,g4,AA];unfold sU;rw[b.ph,c];rfl
 ·have A:=zOp g1
  have l:=zTS y A g3 g4;refine .inr (.inr ⟨oR q (qP j).1,n,_,o.order,c,l,g5,yBU y A,?_,?_⟩)
  ·rw[g6,b.na]
  rw[yI (by simpa using g1),v g1,AA,yI (by simpa using g2),zHr g2];show bnd (pO (uT q (qP j).1)) _=_;rw[zIm,AQ g3,g4,AA];simp only[JR,BB];rw[yI (by simp;omega)];refine yL (zZr y A b.dev _ (λ_=>O)) ?_;have I:fO (oR q (qP j).1) (oR q (qP j).1).length<256:=l.small;have W:=l.le;show bnd (rM ⟨o.store,oR q (qP j).1,o.needs,o.phase,o.AZ,((fO (oR q (qP j).1) (oR q (qP j).1).length:Nat):Int),o.order⟩ ((2:Nat):Int) (iz n) t f) _=_;rw[yAP (a:=⟨o.store,oR q (qP j).1,o.needs,o.phase,o.AZ,((fO (oR q (qP j).1) (oR q (qP j).1).length:Nat):Int),o.order⟩) b.sb O I l.len (λi X=>GV (l.lt X) W) (by decide)];cases xL t [⟨32,2::((fO (oR q (qP j).1) (oR q (qP j).1).length:Nat):Int)::iz n,false⟩] f with
  |none=>rfl|some r=>
   simp only[AA];by_cases e:r.2.2=0
   ·rw[AQ e,yI (by simpa using e)]
    unfold RF;rw[zGZ,<-b.sb,<-b.nb];rfl
   ·rw[AP e,yT (by simpa using e)]
    rw[<-b.sb,<-b.nb,show(Zw o (oR q (qP j).1)).phase=1 from b.ph.trans c];rfl
variable{C:Int}
section
def zOf(a:nN L f m):∀x∈iz f,0<=x/\x<(NH L f h).length:=λx b=>by obtain⟨i,c,rfl⟩:=FM.1 b;have:=a.lt c;rw[LK];omega
def Uk(a:nN L f m){i:Nat}(b:i∈f):ZL (NH L f h) (m:Int) (i:Int)=decide (i∈f.take h):=by have c:=zCN (N:=[]) a h 2 b;have e:=a.small;have d:=yCP (X:=NH L f h) (N:=[]) (p:=2) (o:=iz f) (m:=(m:Int)) (x:=(i:Int)) (by rw[LK];exact a.le) ⟨by omega,by omega⟩ (zOf a _ (FM.2 ⟨i,b,O⟩));have:=d.symm.trans c;injection this
def zJK(a:nN L f m)(c:Int){i:Nat}(b:i∈f):vY (RF L N f m h c) (i:Int)=some (decide (i∈f.take h)):=by have d:=a.small;rw[<-Uk a b];exact yCz (X:=NH L f h) (by rw[LK];exact a.le) ⟨by omega,by omega⟩ (zOf a _ (FM.2 ⟨i,b,O⟩))
def zZy(a:nN L f m)(k:h<=f.length):stay (NH L f h) 2 (m:Int) (iz f)=decide (h<f.length)/\stay (NH L f h) 3 (m:Int) (iz f)=decide (0<h):=by
 unfold stay;constructor
 ·show((iz f).any λx=>!ZL (NH L f h) (m:Int) x)=_
  rw[FK,FP,JH];constructor
  ·rintro⟨x,e,c⟩
   obtain⟨i,d,rfl⟩:=FM.1 e;rw[Uk a d]at c;apply Nat.lt_of_not_le;intro g;rw[IU g,BK d]at c;cases c
  ·intro b
   refine⟨_,FM.2 ⟨f[h],DJ b,O⟩,?_⟩;rw[Uk a (DJ b),BV λg=>absurd ((wT a.nd b h).1 g) (by omega)];rfl
 ·show((iz f).any (ZL (NH L f h) (m:Int)))=_
  rw[FK,FP,JH];constructor
  ·rintro⟨x,e,c⟩
   obtain⟨i,d,rfl⟩:=FM.1 e;rw[Uk a d]at c;apply Nat.pos_of_ne_zero;rintro rfl;simp at c
  ·intro b
   have j:0<f.length:=by omega
   refine⟨_,FM.2 ⟨f[0],DJ j,O⟩,?_⟩;rw[Uk a (DJ j),BK ((wT a.nd j h).2 b)]
def arE(L:List zA)(N:List zY)(a:List Nat)(m c:Nat):zH:=⟨true,NH L a c,N,0,WM,(m:Int),[]⟩
def Zx(b:List zA)(c:List zY)(d:List Nat)(e f:Nat)(g:Int)(h:zG)(i:yB):Option (zH×zG×yB×Int):=
 bnd (xL h [⟨32,[],true⟩] i) λa=>if a.2.2=0 then some (arE b c d e f,a.1,a.2.1,0)else some (RF b c d e f g,a.1,a.2.1,a.2.2)
def zKg(x:Option (zG×yB×Int)){a:Type}(u v:zG×yB×Int->Option a):(bnd x λr=>bif r.2.2 !=0 then u r else v r)=bnd x λr=>if r.2.2=0 then v r else u r:=by
 cases x with
 |none=>rfl|some r=>
  simp only[AA];by_cases e:r.2.2=0
  ·rw[AQ e,yI (by simpa using e)]
  ·rw[AP e,yT (by simpa using e)]
def zLA(b:nN L f m)(d:h<=f.length)(hp:C=2\/C=3)(t:zG)(a:yB):vP (RF L N f m h C) t a=if C=2/\h<f.length\/C=3/\0<h then some (RF L N f m h C,t,a,0)else Zx L N f m h C t a:=by
 have g:=b.small;have:=yCw (X:=NH L f h) (N:=N) (p:=C) (m:=(m:Int)) (o:=iz f) (by rw[LK];exact b.le) hp ⟨by omega,by omega⟩ (zOf b) (by rw[ES];have:=b.len;omega) t a;refine this.trans ?_;have c:=zZy b d;rw[zKg];rcases hp with rfl|rfl
 ·rw[c.1]
  by_cases e:h<f.length
  ·rw[BK e,BD,AQ (.inl ⟨O,e⟩)];rfl
  ·rw[BV e,BB,AP (by omega)];rfl
 ·rw[c.2]
  by_cases e:0<h
  ·rw[BK e,BD,AQ (.inr ⟨O,e⟩)];rfl
  ·rw[BV e,BB,AP (by omega)];rfl
def zNq:∀{l:List Nat} {c:Nat},l.Nodup->c<=l.length->(l.filter λi=>decide (i∈l.take c)).length=c:=by
 intro l c b h
 have f:(l.filter λi=>decide (i∈l.take c))=l.take c:=by
  have e:l=l.take c++l.drop c:=(RQ c l).symm
  conv=>lhs;rw[e]
  rw[RS,wz.2,WY.2,MB]
  ·intro i a d
   rw[RQ]at d;have g:=OJ d;rw[e]at b;exact(LU.1 b).2.2 i g i a O
  ·intro i a
   rw[RQ];exact BK a
 rw[f,DV];omega
def zUT(a:nN L f m)(b:h<=f.length)(c:Int):uX (RF L N f m h c)=some (h:Int):=by
 have e:=a.small;refine(zYf (X:=NH L f h) (N:=N) (p:=c) (m:=(m:Int)) (o:=iz f) (by rw[LK];exact a.le) ⟨by omega,by omega⟩ (zOf a) (by rw[ES];have:=a.len;omega)).trans ?_;congr 2;unfold iz;rw[List.filter_map,FQ,<-zNq a.nd b];congr 1;refine List.filter_congr λi d=>?_
 rw[zNq a.nd b];exact Uk a d
def zVg(a:nN L f m)(c:h<f.length)(b:Int):qZ (RF L N f m h b)=some (f[h]:Int):=by
 unfold qZ;rw[show(RF L N f m h b).order=iz f from O];have g:=a.len;refine yL (a:=.inl (f[h]:Int)) (rF (λi=>(i:Int)) h (λi d=>?_) ?_) O
 ·rw[ES,BK (by omega:(i:Int)<(f.length:Int)),BD,iV (by omega),AA,zJK a b (DJ _),AA,BK ((wT a.nd (by omega) h).2 d),EG,BB,zV d (by omega)]
 ·rw[ES,BK (by omega:(h:Int)<(f.length:Int)),BD,iV c,AA,zJK a b (DJ _),AA,BV λe=>absurd ((wT a.nd c h).1 e) (by omega),IK,BD,AA]
def zXQ(a:nN L f m)(c:h<f.length)(b:Int):oC (RF L N f m (h+1) b)=some (f[h]:Int):=by
 unfold oC;have e:=a.len;rw[show(RF L N f m (h+1) b).order=iz f from O];rw[ES,show wrap .i64 ((f.length:Int)-1)=((f.length-1-0:Nat):Int)by rw[yF (by omega) (by omega)];omega];refine yL (a:=.inl (f[h]:Int)) (rF (λi=>((f.length-1-i:Nat):Int)) (f.length-1-h) (λi g=>?_) ?_) O
 ·rw[BK (by omega:((f.length-1-i:Nat):Int)>=0),BD,iV (by omega),AA,zJK a b (DJ _),AA,BV λd=>absurd ((wT a.nd (by omega) (h+1)).1 d) (by omega),BB,yF (by omega) (by omega)]
  congr 2;omega
 ·rw[show f.length-1-(f.length-1-h)=h by omega,BK (by omega:((h:Nat):Int)>=0),BD,iV c,AA,zJK a b (DJ _),AA,BK ((wT a.nd c (h+1)).2 (by omega)),BD,AA]
def Ul(k:Nat)(r:zH×zG×yB×Int):zH×zG×yB×Int×Int:=(r.1,r.2.1,r.2.2.1,if r.2.2.2=0 then(k:Int)else 0,r.2.2.2)
def yAV(X:Option (zH×zG×yB×Int))(k:Nat):(bnd (bnd X λb=>some (b.2.2.2,b.1,b.2.1,b.2.2.1)) λa=>bif(a.1 !=0)then some (a.2.1,a.2.2.1,a.2.2.2,(0:Int),a.1)else some (a.2.1,a.2.2.1,a.2.2.2,(k:Int),0))=bnd X λr=>some (Ul k r):=by
 cases X with
 |none=>rfl|some r=>
  simp only[AA,Ul];by_cases e:r.2.2.2=0
  ·rw[yI (by simpa using e),AQ e,e]
  ·rw[yT (by simpa using e),AP e]
def zWI{c:Nat}(h:nN L f m)(l:c<f.length)(e:Nat)(p:C=2/\e=c\/C=3/\e=c+1)(g:Bool)(t:zG)(a:yB):vA (RF L N f m e C) g t a=if g=true\/C=3 then bnd (vP (RF L N f m (if C=2 then c+1 else c) C) t a) λr=>some (Ul f[c] r)else bnd (oD (RF L N f m c C) (c:Int) t a) λr=>some (Ul f[c] r):=by
 obtain⟨d0,x,q,y⟩:=zOo (N:=N) h l e C;have k:CO (NH L f e) (f[c]:Int)=some (if c<e then cF d0 else d0):=y;have j:=h.lt (DJ l)
 obtain⟨d,s,b⟩:∃d,CO (NH L f e) (f[c]:Int)=some d/\Two d/\(NH L f e).set f[c] (cF d)=NH L f (if C=2 then c+1 else c)/\(NH L f e).set f[c] d=NH L f e:=by
  refine⟨_,k,?_,?_,?_⟩
  ·split
   ·exact zLI q
   ·exact q
  ·rcases p with⟨rfl,rfl⟩|⟨rfl,rfl⟩
   ·rw[AP (by omega),AQ O,zRB h.nd l x]
   ·rw[AQ (by omega),AP (by decide),zNY q.1,zSi h.nd l x]
  ·apply FW
   intro i;rw[KR];split
   ·rename_i z
    subst z;rw[IA]at k;rw[k,AQ (by simpa using j)]
   ·rfl
 obtain⟨b,u,v⟩:=b;unfold vA;rw[zUT h (by omega),AA];refine yL (a:=.inr (f[c]:Int)) ?_ ?_
 ·rcases p with⟨rfl,rfl⟩|⟨rfl,rfl⟩
  ·show bnd (qZ _) _=_
   rw[zVg h l,AA]
  ·show bnd (oC _) _=_
   rw[zXQ h l,AA]
 rw[FD,show(RF L N f m e C).devices=NH L f e from O,s,AA,zTv b.1.sm,AA,zDm b];simp only[JR,BB];rw[zLq (d:=⟨d.Name,d.Slots,d.Active,d.Running,true⟩) b.1.sm,AA,cW b,AA,uS (by simpa using j),AA]
 have n:CO ((NH L f e).set f[c] (WL d)) (f[c]:Int)=some (WL d):=by rw[IA,RN (by simpa using j)]
 by_cases o:g=true\/C=3
 ·rw[AQ o,<-yAV]
  congr 1;refine yL (a:=true) (by rcases o with rfl|rfl;rfl;cases g<;>rfl) ?_;rw[BD,n,AA,zSb (d:=WL d) b.1.sm,AA,zEB b,AA,uS (by simpa using j),AA,UR,u];rfl
 ·rw[AP o,<-yAV]
  congr 1;have w:C=2/\e=c:=by rcases p with h|h;exact h;exact absurd (.inr h.1) o
  obtain⟨rfl,rfl⟩:=w;refine yL (a:=false) (by cases g;rfl;exact absurd (.inl O) o) ?_;rw[BB,n,AA,zLq (d:=WL d) b.1.sm,AA,zRt b,AA,uS (by simpa using j),AA,UR,v];rfl
def yCl(b:nN L f m)(t:zG)(a:yB):oD (RF L N f m h 2) (h:Int) t a=if h=0 then Zx L N f m 0 2 t a else bnd (xL t [⟨32,3::(m:Int)::iz f,false⟩] a) λr=>if r.2.2=0 then some (RF L N f m h 3,r.1,r.2.1,0)else some (RF L N f m h 2,r.1,r.2.1,r.2.2):=by
 unfold oD;by_cases e:h=0
 ·subst e
  rw[BV (by omega),BB,AQ O];show bnd (vZ true) _=_;rw[show vZ true=some true from O,AA,zKg];rfl
 ·rw[BK (by omega),BD,AP e]
  have c:=b.le;have:=yAP (a:=RF L N f m h 2) O O b.small b.len (λi d=>GV (b.lt d) c) (ph:=3) (by decide) t a;rw[show((3:Nat):Int)=3 from O]at this;rw[show(RF L N f m h 2).order=iz f from O,this,zKg];rfl
def Stn(a:List Nat)(c:Nat)(b:Int):Prop:=b=2/\c<a.length\/b=3/\0<c/\c<=a.length
def zWr(b:nN L f m)(p:Stn f h C)(g:Bool)(s:zE)(d:zB)(t:zG)(a:yB):(∃l k,Stn f l C/\xK (KG L N f m h C) g s d=some (KG L N f m l C,s,d,k,0)/\vA (RF L N f m h C) g t a=some (RF L N f m l C,t,a,k,0))\/(∃l k,l<=f.length/\xK (KG L N f m h C) g s d=(bnd (zu L N f m l C s d) λr=>some (Ey k r))/\vA (RF L N f m h C) g t a=(bnd (Zx L N f m l C t a) λr=>some (Ul k r)))\/(∃k:Int,C=2/\0<h/\h<f.length/\xK (KG L N f m h 2) g s d=(bnd (yK s [⟨32,3::(m:Int)::iz f,false⟩] d) λr=>if r.2.2=0 then some (KG L N f m h 3,r.1,r.2.1,k,0)else some (KG L N f m h 2,r.1,r.2.1,0,r.2.2))/\vA (RF L N f m h 2) g t a=(bnd (xL t [⟨32,3::(m:Int)::iz f,false⟩] a) λr=>if r.2.2=0 then some (RF L N f m h 3,r.1,r.2.1,k,0)else some (RF L N f m h 2,r.1,r.2.1,0,r.2.2))):=by
 rcases p with⟨rfl,n⟩|⟨rfl,q,n⟩
 ·cases g
  ·have j:=zZJ (N:=N) b n s d
   have i:=zWI (N:=N) b n h (.inl ⟨O,O⟩) false t a;rw[AP (by decide),yCl b]at i;by_cases e:h=0
   ·rw[AQ e]at j i
    exact .inr (.inl ⟨0,_,by omega,j,i⟩)
   ·rw[AP e]at j i
    refine .inr (.inr ⟨_,O,by omega,n,j,i.trans ?_⟩);cases xL t [⟨32,3::(m:Int)::iz f,false⟩] a with
    |none=>rfl|some r=>
     simp only[AA];by_cases o:r.2.2=0
     ·rw[AQ o,AQ o];rfl
     ·rw[AP o,AP o,AA]
      simp only[Ul];rw[AP o]
  ·have j:=zXg (N:=N) b n s d
   have i:=zWI (N:=N) b n h (.inl ⟨O,O⟩) true t a;rw[AQ (.inl O),AQ O,zLA b (by omega) (.inl O)]at i;by_cases e:h+1<f.length
   ·rw[AQ e]at j
    rw[AQ (.inl ⟨O,e⟩),AA]at i;exact .inl ⟨h+1,_,.inl ⟨O,e⟩,j,i⟩
   ·rw[AP e]at j
    rw[AP (by omega)]at i;exact .inr (.inl ⟨h+1,_,by omega,j,i⟩)
 ·obtain⟨k,rfl⟩:∃k,h=k+1:=⟨h-1,by omega⟩
  have j:=zYE (N:=N) b (c:=k) (by omega) g s d;have i:=zWI (N:=N) b (c:=k) (by omega) (k+1) (.inr ⟨O,O⟩) g t a;rw[AQ (.inr O),AP (by decide),zLA b (by omega) (.inr O)]at i;by_cases e:0<k
  ·rw[AQ e]at j
   rw[AQ (.inr ⟨O,e⟩),AA]at i;exact .inl ⟨k,_,.inr ⟨O,e,by omega⟩,j,i⟩
  ·rw[AP e]at j
   rw[AP (by omega)]at i;exact .inr (.inl ⟨k,_,by omega,j,i⟩)
def zVd(hp:Qd o.phase)(b:o.order=[])(a:Bool)(t:zG)(f:yB):vA o a t f=some (o,t,f,0,46):=by
 unfold vA
 have:uX o=some 0:=by unfold uX;rw[b,Ru];exact yV O
 rw[this,AA];rcases hp with h|h<;>rw[h]<;>rfl
end
def jK:Option (List Int)->List zF
 |none=>[]|some x=>[⟨32,x,false⟩]
structure Df(d:zB)(s:zE)(t:zG)(v:Option (List Int))(g:Nat):Prop where
 TB:ZV d s 0
 ref:t=eL 0 (DU d 0)
 K:(DU d 0).K=jK v
 gen:(DU d 0).gen<=g
structure Qg(d:zB)(v:Option (List Int))(g:Nat):Prop where
 ok:JD d
 size:1024<=d.size
 BO:0+1<d.BO.length
 K:(DU d 0).K=jK v
 gen:(DU d 0).gen<=g
variable{w:Option (List Int)}{j:zB}{r:zE}
def Df.lst{t:zG}(h:Df j r t w m):Qg j w m:=⟨h.TB.ok,h.TB.size,h.TB.first,h.K,h.gen⟩
def zRX(v:Option (List Int))(x:List Int):wS (jK v) [⟨32,x,false⟩]=jK (some x):=by cases v<;>rfl
def zLi(v:Option (List Int)):wS (jK v) [⟨32,[],true⟩]=jK none:=by cases v<;>rfl
def yBT(v:Option (List Int)):(jK v).length<=1:=by cases v<;>simp[jK]
def zZV{t:zG}{f:Option (List Int)}(h:Df j r t w m)(L:m<2147483648){l:List zF}(p:Ih l)(M:l.length<=1)(G:wS (jK w) l=jK f):∃s u g e,yK r l j=some (s,g,e)/\xL t l (toF j)=some (u,toF g,e)/\(e=0/\Df g s u f (m+1)\/e=10/\∃a,(a=w\/a=f)/\Qg g a (m+1)):=by
 have H:=h.gen;have A:=yBT f;have v:wS (DU j 0).K l=jK f:=by rw[h.K,G]
 obtain⟨⟨s,g,e⟩,I,q,y⟩:=h.TB.cut p (by omega) (by rw[v];omega) (by omega) (λ_=>by rw[v];exact JU A (by decide));have i:∀x∈l,0<=x.Key/\x.Key<=255/\EW x.Value:=λx B=>⟨(p.1 x B).1.1,(p.1 x B).1.2,(p.1 x B).2.1⟩
 obtain⟨u,J,D⟩:=zOe (zXR h.TB.ok h.TB.size h.TB.first) h.TB.ok h.TB.size h.TB.first (l:=l) (by omega) i;have E:=zXV h.TB.ok h.TB.down h.TB.size h.TB.first rfl i;have F:=y.val;generalize ZK (DU j 0) j 0 l=R at*;obtain⟨o,N,P⟩:=R;simp only[KD]at F;obtain⟨rfl,rfl⟩:=F;have k:=y.gen;have b:=y.list;simp only[fP]at k b;refine⟨s,u,_,_,I,by rw[h.ref];exact J,?_⟩;rcases y.err with⟨n,C,z⟩|⟨n,C,z⟩
 ·simp only at n C z
  subst n;refine .inl ⟨O,z,?_,?_,by omega⟩
  ·rcases E.cases with⟨_,_,b3,_⟩|⟨b1,_⟩|⟨b1,_⟩
   ·simp only at b3
    rw[b3]at D;exact D
   ·simp only at b1;omega
   ·simp only at b1;omega
  ·rcases b with d|⟨d,_⟩
   ·rw[d,v]
   ·cases d
 ·simp only at n C z
  subst n;have c:=E.like;refine .inr ⟨O,?_⟩;rcases b with d|⟨_,d⟩
  ·exact⟨f,.inr O,c.ok,by rw[c.size];exact h.TB.size,by rw[c.BO];exact h.TB.first,by rw[d,v],by omega⟩
  ·exact⟨w,.inl O,c.ok,by rw[c.size];exact h.TB.size,by rw[c.BO];exact h.TB.first,by rw[d,h.K],by omega⟩
def zUx{x:List Int}(b:EW x)(a:x.length<=28):Ih [⟨32,x,false⟩]:=⟨λz hz=>by rw[FI]at hz;subst hz;exact⟨⟨(by decide:(0:Int)<=32),(by decide:(32:Int)<=255)⟩,b,a,λh=>by cases h⟩,WW _ _⟩
def zOL:Ih [⟨32,[],true⟩]:=⟨λz hz=>by rw[FI]at hz;subst hz;exact⟨⟨(by decide:(0:Int)<=32),(by decide:(32:Int)<=255)⟩,(λx (a:x∈[])=>(RZ a).elim),KJ _,λ_=>rfl⟩,WW _ _⟩
def WQ(h:Qg j w m):∃s t,vT (bZ j) 0=some (bZ j,some s,0)/\lT (toF (bZ j)) 0=some (toF (bZ j),some t,0)/\Df (bZ j) s t w m:=by obtain⟨s,a,b⟩:=zIc (f:=0) (zKn h.ok) rfl (by show 1024<=j.size;exact h.size) (by show 0+1<j.BO.length;exact h.BO);exact⟨s,_,a,zLH (f:=0) (zKn h.ok) O (by show 1024<=j.size;exact h.size) (by show 0+1<j.BO.length;exact h.BO),b,O,by rw[fP];exact h.K,by rw[fP];exact h.gen⟩
def zKW(d:m<256){Oz:List Nat}(a:∀i∈Oz,i<8){ph:Int}(hp:0<=ph/\ph<=255):EW (ph::(m:Int)::iz Oz):=by
 intro x b;rcases EC.1 b with h|h
 ·subst h;exact hp
 rcases EC.1 h with h|h
 ·subst h;omega
 ·obtain⟨i,c,rfl⟩:=FM.1 h
  have:=a i c;show 0<=(i:Int)/\(i:Int)<=255;omega
def zUu{n:Nat}:∀{l acc:List Nat},(∀i∈l,i<n)->(acc++l).Nodup->Cm n (iz acc) (iz l)=some (iz (acc++l))
 |[],acc,_,_=>by simp[Cm]|x::r,acc,h,b=>by
  have f:=h x (by simp)
  have a:(x:Int)∉iz acc:=λc=>by
   obtain⟨y,hy,g⟩:=FM.1 c;have:y=x:=by omega
   subst this;exact(LU.1 b).2.2 y hy y (by simp) O
  show(if(n:Int)<=(x:Int)\/(x:Int)∈iz acc then none else Cm n (iz acc++[(x:Int)]) (iz r))=_;rw[AP (λe=>by rcases e with e|e;omega;exact a e),show iz acc++[(x:Int)]=iz (acc++[x])by rw[<-mK];rfl,zUu (λi d=>h i (by simp[d])) (by simpa using b)];simp
def yAJ(h:DL L)(c:tH N=true):aD L N=0:=by
 have a:=zUB (n:=2) (m:=1024) (by omega) (by omega);obtain⟨s,j,e⟩:=zIc (f:=0) a rfl (by show(1024:Int)<=1024;omega) (by show 0+1<(List.replicate 2 (0:Int)).length;simp);have g:nS (DU (Cb 2 1024) 0).K 32=none:=by rw[zIO (by omega) (by omega)];rfl
 have b:=zYQ h c e g;rw[yAL (λd i=>(h.je d i).sm)]at b;split at b
 ·assumption
 ·simp at b
def zZw(h:DL L):L.map sL=L:=by
 conv=>rhs;rw[<-QH L]
 exact MS λd a=>zPe (h.je d a).run (h.je d a).tr
def Zy(h:DL L)(j:nN L f m)(c:Nat):DL (NH L f c):=by
 refine⟨by rw[LK];exact h.pos,by rw[LK];exact h.le,?_,λd k=>?_⟩
 ·have:(NH L f c).map (·.Name)=L.map (·.Name):=by
   apply FW;intro i;rw[IJ,IJ,cZ];cases L[i]?with
   |none=>rfl|some d=>
    simp only[DR];split<;>rfl
  rw[this];exact h.names
 ·obtain⟨i,l,n⟩:=IZ.1 k
  have e:=CJ l;rw[n,cZ]at e;obtain⟨d0,g,b⟩:=LP.1 e;split at b
  ·rename_i o
   obtain⟨q,a,p⟩:=j.mem i (OE o);rw[g]at a;injection a with a;subst a;rw[<-b];exact(zLI p).1
  ·rw[<-b]
   exact h.je _ (MQ g)
def Zz(L:List zA)(w:Option (List Int)):Prop:=
 w=none\/∃b a m c d,L=NH b a c/\DL b/\nN b a m/\a≠[]/\c<=a.length/\(d=2\/d=3)/\w=some (d::(m:Int)::iz a)
structure ZY(a:zD)(b:zH)(N:List zY)(d:zB)(s:zE)(t:zG)(g:Nat):Prop where
 ra:RA a b N
 dl:DL a.devices
 st:(Qd a.phase/\Df d s t none g)\/∃L0 Od m c ph,Stn Od c ph/\DL L0/\nN L0 Od m/\a=KG L0 N Od m c ph/\b=RF L0 N Od m c ph/\Df d s t (some (ph::(m:Int)::iz Od)) g
def zOw{y:Int}{o:List Int}:RA ⟨true,L,N,0,WM,C,o⟩ ⟨true,L,N,0,WM,y,[]⟩ N:=
 ⟨O,O,O,O,O,O,by simp,(λh=>by simp at h),(λh=>by simp at h),λ_=>O⟩
def zJT(hp:C=2\/C=3):RA (KG L N f m h C) (RF L N f m h C) N:=
 ⟨O,O,O,O,O,O,by show 0<=C/\C<=3;omega,(λa=>by have:C=1:=a;omega),(λ_=>⟨O,O⟩),λa=>by have:C=0\/C=1:=a;omega⟩
def PD(u:DL L)(U:tH N=true){t:zG}(h:Df j r t w m)(V:j.left=0)(W:m<2147483648)(X:Zz L w):∃y z x C G,sJ r L N j=some (y,x,some C,0)/\nP t L N (toF j)=some (z,toF x,some G,0)/\ZY C G N x y z (m+1)/\C.devices=L:=by
 have A:∀j∈L,vQ j:=λj Y=>(u.je j Y).sm
 have B:=zQb h.TB.ok 0;rw[yAL A,yCk A,yAJ u U,AQ O,AQ O,zZw u];unfold yAX yBa;rw[yCQ h.TB.rel B 32,AA,zVj (r:=t) (f:=0) (o:=DU j 0) h.ref B 32,AA,h.K];rcases X with rfl|⟨k,d,a,c,g,rfl,H,p,Z,M,D,rfl⟩
 ·refine⟨_,_,_,_,_,O,O,⟨zOw,u,.inl ⟨.inl O,h.TB,h.ref,h.K,by have:=h.gen;omega⟩⟩,O⟩
 have P:(NH k d c).length<=8:=u.le
 have v:Uf (NH k d c).length (g::(a:Int)::iz d)=some (g,(a:Int),iz d):=by rw[zGB,AQ D];have:=zUu (n:=(NH k d c).length) (l:=d) (acc:=[]) (λi I=>by rw[LK];exact p.lt I) (by simpa using p.nd);rw[show([]:List Int)=iz []from O,this];rfl
 have Q:=zKW p.small (Oz:=d) (λi I=>by have:=p.lt I;have:=p.le;omega) (ph:=g) (by omega);have s:(g::(a:Int)::iz d).length<=28:=by have:=p.len;simp;omega
 obtain⟨a1,p1,p2⟩:=yCj P N Q s;obtain⟨b1,r1,r2⟩:=yCm P N Q s;have ea:=p2 _ _ _ v;have eb:=r2 _ _ _ v;have J:(nS (jK (some (g::(a:Int)::iz d))) 32)=some (g::(a:Int)::iz d):=rfl;rw[J];simp only[GK,XO,EG,BB];rw[p1,AA,r1,AA,v];simp only[XO,EG,BB];subst ea eb;have hg':=h.gen
 have pS:xP (KG k N d a c g) r j=if g=2/\c<d.length\/g=3/\0<c then some (KG k N d a c g,r,j,0)else zu k N d a c g r j:=by
  rcases D with rfl|rfl
  ·rw[zUH p]
   by_cases e:c<d.length
   ·rw[AQ e,AQ (.inl ⟨O,e⟩)]
   ·rw[AP e,AP (by omega)]
  ·rw[zUd p M]
   by_cases e:0<c
   ·rw[AQ e,AQ (.inr ⟨O,e⟩)]
   ·rw[AP e,AP (by omega)]
 show∃y z x C G,(bnd (xP (KG k N d a c g) r j) _)=_/\(bnd (vP (RF k N d a c g) t (toF j)) _)=_/\_;rw[pS,zLA p M D];by_cases q:g=2/\c<d.length\/g=3/\0<c
 ·rw[AQ q,AQ q]
  exact⟨r,t,j,KG k N d a c g,RF k N d a c g,O,O,⟨zJT D,u,.inr ⟨k,d,a,c,g,(by unfold Stn;omega),H,p,O,O,h.TB,h.ref,h.K,by omega⟩⟩,O⟩
 ·rw[AP q,AP q]
  obtain⟨y,z,x,e,R,u2,E⟩:=zZV h W zOL (by simp) (zLi _);have S:wS (DU j 0).K [⟨32,[],true⟩]=jK none:=by rw[h.K,zLi]
  obtain⟨b,F,T,_⟩:=h.TB.sure V zOL (by simp) (by rw[S];simp[jK]) (by omega) (λ_=>by rw[S];decide);rw[R]at F;injection F with F;subst F;simp only at T;subst T;rcases E with⟨_,E⟩|⟨E,_⟩
  case inr=>omega
  unfold zu Zx;rw[R,u2];exact⟨y,z,x,agE k N d a c,arE k N d a c,O,O,⟨zOw,u,.inl ⟨.inl O,E⟩⟩,O⟩
def yCt(i:DL L)(k:tH N=true)(h:Qg j w m)(l:m<2147483648)(n:Zz L w)(x y:Bool)(a:zD)(s:zE)(b:zH)(t:zG):∃e f c d g,tW ⟨true,true,x,y,N⟩ L L (bZ j) (toF (bZ j)) a s b t=some (⟨true,true,true,true,N⟩,c,toF c,0,true,some (e,f,d,g))/\ZY d g N c e f (m+1)/\d.devices=L:=by obtain⟨A,B,o,p,q⟩:=WQ h;obtain⟨e,f,c,d,g,r,u,v,z⟩:=PD i k q rfl l n;refine⟨e,f,c,d,g,?_,v,z⟩;unfold tW;simp only[show vZ true=some true from O,AA,o,p,eN,r,u];rfl
def zQD(l:o.devices=q.devices)(g:DL q.devices)(n:tH N=true)(h:Qg j w m)(p:m<2147483648)(r:Zz q.devices w)(s:zE)(t:zG):∃c d a e f,vG ⟨true,true,true,true,N⟩ j (toF j) q s o t=some (⟨true,true,true,true,N⟩,a,toF a,o,true,some (c,d,e,f))/\ZY e f N a c d (m+1):=by
 obtain⟨c,d,a,e,f,u,i,k⟩:=yCt g n h p r true true q s o t;refine⟨c,d,a,e,f,?_,i⟩;have b:∀x∈q.devices,vQ x:=λx v=>(g.je x v).sm
 have y:=g.le
 have z:nM o.devices=some q.devices:=by rw[l];exact zCZ (by omega) b
 have A:wJ o=some (o,q.devices):=by unfold wJ;rw[z,AA]
 have B:=zNI (M:=N) i.ra (by rw[k];exact y) (by rw[k];exact b) a (toF a) c d;unfold vG;simp only[show vZ true=some true from O,AA];rw[yAT (by omega) b,AA,A,AA,zIb (by omega),AA,EG,BB,show uL j=some (bZ j)from O,AA,zSU,AA,u,AA];simp only[eN];rw[show((0:Int)==10)=false from O,BB,show((0:Int)==0)=true from O,BD,BD,B,AA,AA]
def A7(N:List zY)(d:zB)(a:zD)(s:zE)(b:zH)(t:zG)(e:Int)(g:Nat):Prop:=
 ZY a b N d s t g\/b.devices=a.devices/\DL a.devices/\e=10/\∃w,Qg d w g/\Zz a.devices w
def ZY.up{t:zG}(h:ZY q o N j r t m)(k:Nat):ZY q o N j r t (m+k):=by
 refine⟨h.ra,h.dl,?_⟩;rcases h.st with⟨d,a⟩|⟨f,g,e,c,i,d,a,l,n,p,b⟩
 ·exact .inl ⟨d,a.TB,a.ref,a.K,by have:=a.gen;omega⟩
 ·exact .inr ⟨f,g,e,c,i,d,a,l,n,p,b.TB,b.ref,b.K,by have:=b.gen;omega⟩
def ZY.lst{a:zD}{b:zH}{N:List zY}{d:zB}{s:zE}{t:zG}{g:Nat}(h:ZY a b N d s t g):∃w,Qg d w g/\Zz a.devices w:=by
 rcases h.st with⟨e,f⟩|⟨i,j,m,c,k,e,f,l,rfl,p,n⟩
 ·exact⟨_,f.lst,.inl O⟩
 ·refine⟨_,n.lst,.inr ⟨i,j,m,c,k,O,f,l,?_,?_,?_,O⟩⟩
  ·rintro rfl
   rcases e with⟨_,h⟩|⟨_,h,o⟩
   ·simp at h
   ·simp at o;omega
  ·rcases e with⟨_,h⟩|⟨_,_,h⟩<;>omega
  ·rcases e with⟨h,_⟩|⟨h,_⟩
   ·exact .inl h
   ·exact .inr h
def ZY.quiet{a:zD}{b:zH}{t:zG}(h:ZY q o N j r t m)(g:RA a b N)(i:Qt q a o b):ZY a b N j r t m:=by
 rcases i with⟨rfl,rfl⟩|⟨d,l,n⟩
 ·exact h
 ·refine⟨g,by rw[n];exact h.dl,.inl ⟨l,?_⟩⟩
  rcases h.st with⟨_,h⟩|⟨s,u,e,c,f,p,_,_,rfl,_⟩
  ·exact h
  ·have d:f=0\/f=1:=d
   rcases p with⟨k,_⟩|⟨k,_⟩<;>omega
def yCC(h:f.length<=8)(a:Int):(a::(m:Int)::iz f).length<=28:=by simp;omega
def zSJ(C:tH N=true){t:zG}(D:m<2147483648)(h:ZY q o N j r t m):∃u v n x y e,xO q r j=some (u,v,n,e)/\wD o t (toF j)=some (x,y,toF n,e)/\A7 N n u v x y e (m+1):=by
 rcases zQn h.ra h.dl C r j t (toF j)with⟨e,b,d⟩|⟨u,x,b,d,E,F⟩|⟨L,p,f,l,hp,a,g,s,b,d⟩
 ·exact⟨_,_,_,_,_,_,b,d,.inl (h.up 1)⟩
 ·exact⟨_,_,_,_,_,_,b,d,.inl ((h.quiet E F).up 1)⟩
 ·have G:Df j r t none m:=by
   rcases h.st with⟨_,h⟩|⟨R,S,f,c,B,H,_,_,rfl,_⟩
   ·exact h
   ·have hp:B=1:=hp
    rcases H with⟨k,_⟩|⟨k,_⟩<;>omega
  have I:∀i∈p,i<8:=λi J=>GV (a.lt J) a.le
  obtain⟨v,y,n,e,K,M,z⟩:=zZV G D (zUx (zKW a.small I (ph:=2) (by omega)) (yCC a.len 2)) (by simp) (zRX none _);rw[b,d,K,M,AA,AA];have A:DL (NH L p 0):=by rw[zGZ];exact s
  rcases z with⟨rfl,z⟩|⟨rfl,w,P,Q⟩
  ·exact⟨_,_,_,_,_,_,AQ O,AQ O,.inl ⟨zJT (.inl O),A,.inr ⟨L,p,f,0,2,.inl ⟨O,OH.2 g⟩,s,a,O,O,z⟩⟩⟩
  ·refine⟨_,_,_,_,_,_,AP (by simp),AP (by simp),.inr ⟨O,s,O,w,Q,?_⟩⟩
   rcases P with rfl|rfl
   ·exact .inl O
   ·exact .inr ⟨L,p,f,0,2,(zGZ _ _).symm,s,a,g,by omega,.inl O,O⟩
def zXO(S:tH N=true){t:zG}(I:m<2147483648)(h:ZY q o N j r t m)(a:Bool):∃J C v L D k e,xK q a r j=some (J,C,v,k,e)/\vA o a t (toF j)=some (L,D,toF v,k,e)/\A7 N v J C L D e (m+1):=by
 rcases h.st with⟨g,d⟩|⟨x,l,f,c,y,g,d,b,rfl,rfl,s⟩
 ·exact⟨_,_,_,_,_,_,_,zYo g a r j,zVd (by rw[h.ra.ph];exact g) (h.ra.io g) a t (toF j),.inl (h.up 1)⟩
 have n:l≠[]:=by
  rintro rfl;rcases g with⟨_,h⟩|⟨_,h,P⟩
  ·simp at h
  ·simp at P;omega
 have M:y=2\/y=3:=by
  rcases g with⟨h,_⟩|⟨h,_⟩
  ·exact .inl h
  ·exact .inr h
 rcases zWr (N:=N) b g a r j t (toF j)with⟨u,k,z,A,B⟩|⟨u,k,z,A,B⟩|⟨k,rfl,z,T,A,B⟩
 ·exact⟨_,_,_,_,_,_,_,A,B,.inl ⟨zJT M,Zy d b u,.inr ⟨x,l,f,u,y,z,d,b,O,O,s.TB,s.ref,s.K,by have:=s.gen;omega⟩⟩⟩
 ·obtain⟨C,D,v,e,E,F,p⟩:=zZV s I zOL (by simp) (zLi _)
  rw[A,B];unfold zu Zx;rw[E,F,AA,AA];rcases p with⟨rfl,p⟩|⟨rfl,w,G,H⟩
  ·exact⟨_,_,_,_,_,_,_,O,O,.inl ⟨zOw,Zy d b u,.inl ⟨.inl O,p⟩⟩⟩
  ·refine⟨_,_,_,_,_,_,_,O,O,.inr ⟨O,Zy d b u,O,w,H,?_⟩⟩
   rcases G with rfl|rfl
   ·exact .inr ⟨x,l,f,u,y,O,d,b,n,z,M,O⟩
   ·exact .inl O
 ·have Q:∀i∈l,i<8:=λi R=>GV (b.lt R) b.le
  obtain⟨C,D,v,e,E,F,p⟩:=zZV s I (zUx (zKW b.small Q (ph:=3) (by omega)) (yCC b.len 3)) (by simp) (zRX _ _);rw[A,B,E,F,AA,AA];rcases p with⟨rfl,p⟩|⟨rfl,w,G,H⟩
  ·exact⟨_,_,_,_,_,_,_,AQ O,AQ O,.inl ⟨zJT (.inr O),Zy d b c,.inr ⟨x,l,f,c,3,.inr ⟨O,z,by omega⟩,d,b,O,O,p⟩⟩⟩
  ·refine⟨_,_,_,_,_,_,_,AP (by simp),AP (by simp),.inr ⟨O,Zy d b c,O,w,H,?_⟩⟩
   rcases G with rfl|rfl
   ·exact .inr ⟨x,l,f,c,2,O,d,b,n,by omega,.inl O,O⟩
   ·exact .inr ⟨x,l,f,c,3,O,d,b,n,by omega,.inr O,O⟩
def Kv(N:List zY)(x:Ep)(g:Nat):Prop:=
 x.1=⟨true,true,true,true,N⟩/\vB x.2.1/\x.2.2.2.1=toF x.2.2.1/\ZY x.2.2.2.2.1 x.2.2.2.2.2.2.1 N x.2.2.1 x.2.2.2.2.2.1 x.2.2.2.2.2.2.2 g
def zMS(g:tH N=true){t:zG}{e:Int}(i:m<2147483648)(h:A7 N j q r o t e m)(a:zE)(b:zG):∃k l c n p,vG ⟨true,true,true,true,N⟩ j (toF j) q a o b=some (⟨true,true,true,true,N⟩,c,toF c,o,true,some (k,l,n,p))/\ZY n p N c k l (m+1):=by
 rcases h with h|⟨s,u,v,w,d,f⟩
 ·obtain⟨w,d,f⟩:=h.lst
  exact zQD h.ra.dev h.dl g d i f a b
 ·exact zQD s u g d i f a b
def zZA(C:tH N=true){c:xT}(hc:vB c){t:zG}(hg:m+2<2147483648)(h:ZY q o N j r t m):∃n,oX ⟨true,true,true,true,N⟩ c j (toF j) q r o t=some n/\n.2.2.2.2.2.2.2.2.1=true/\Kv N (Hu n) (m+2):=by
 have Q:∀x∈q.devices,vQ x:=λx R=>(h.dl.je x R).sm
 have h8:=h.dl.le;unfold oX;refine zYk (P:=λi=>(∃n,i=.inl n/\n.2.2.2.2.2.2.2.2.1=true/\Kv N (Hu n) (m+2))\/∃e L At d g p s u,i=.inr (e,e,L,At,d,toF d,g,p,s,u)/\vB ⟨L,At⟩/\A7 N d g p s u e (m+1)) ?_ ?_
 ·obtain⟨⟨G,k⟩,e1,a,k0,k1⟩:=jV hc (n:=12) (by omega)
  simp only at a k0 k1;rw[e1,AA];simp only[show vZ true=some true from O,AA]
  have S:N.length<=1000:=by have:N.length<=16:=OJ (JV.1 C).1;omega
  have T:wJ o=some (o,q.devices):=by unfold wJ;rw[h.ra.dev,show nM q.devices=some q.devices from zCZ (by omega) Q,AA]
  rcases(by omega:(k=0\/k=1)\/(k=2\/k=3)\/(k=4\/k=5\/k=6\/k=7)\/k=8\/k=9\/k=10\/k=11)with D|D|D|rfl|rfl|rfl|rfl
  ·have:∃i,(bnd (wJ o) λr2=>bnd (gS G r2.2 N) λH=>bnd (rZ ⟨true,true,true,true,N⟩ H.1 H.2 j (toF j) q r r2.1 t) λI=>some (Sum.inl ((⟨true,true,true,true,N⟩:tM),I.1,j,toF j,I.2.1,r,I.2.2.1,t,I.2.2.2,(none:Option (zE×zG×zD×zH))):_⊕(Int×Int×List Int×Int×zB×yB×zD×zE×zH×zG)))=some i/\((∃n,i=.inl n/\n.2.2.2.2.2.2.2.2.1=true/\Kv N (Hu n) (m+2))\/∃e L At d g p s u,i=.inr (e,e,L,At,d,toF d,g,p,s,u)/\vB ⟨L,At⟩/\A7 N d g p s u e (m+1)):=by rw[T,AA];obtain⟨H,e3,c3,bb,b1,b2,b3⟩:=zXW a h8 S;rw[e3,AA];obtain⟨l,e4,c4,E,F,q3⟩:=zWk (M:=N) h.ra c3 (x:=H.2) (by rw[b3];exact yBQ b1) (by rw[b3,ES];omega) j (toF j) r t;rw[e4,AA];exact⟨_,O,.inl ⟨_,O,q3,O,c4,O,(h.quiet E F).up 2⟩⟩
   rcases D with rfl|rfl<;>exact this
  ·obtain⟨g,p,d,s,u,e,z,A,B⟩:=zSJ C (by omega) h
   rcases D with rfl|rfl
   all_goals
    show∃i,(bnd (xO q r j) _)=some i/\_;rw[z,AA,A,AA];exact⟨_,O,.inr ⟨_,_,_,_,_,_,_,_,O,a,B⟩⟩
  ·obtain⟨r7,e7,c7,_,_⟩:=jV a (n:=4) (by omega)
   obtain⟨g,p,d,s,u,k,e,z,A,B⟩:=zXO C (by omega) h (decide (r7.2<3));rcases D with rfl|rfl|rfl|rfl
   all_goals
    show∃i,(bnd (yH G 4) _)=some i/\_;rw[e7,AA,z,AA,A,AA,show(k !=k)=false by simp,BB];exact⟨_,O,.inr ⟨_,_,_,_,_,_,_,_,O,c7,B⟩⟩
  ·obtain⟨g,s,e,z,A,B,U,_⟩:=zSB h.ra
   show∃i,(bnd (qC q) _)=some i/\_;rw[z,AA,A,AA];exact⟨_,O,.inr ⟨_,_,_,_,_,_,_,_,O,a,.inl ((h.quiet B U).up 1)⟩⟩
  ·obtain⟨V,W,X,z1,z2⟩:=jV a (n:=40) (by omega)
   obtain⟨Y,Z,c13,z3,z4⟩:=jV X (n:=256) (by omega);show∃i,(bnd (yH G 40) _)=some i/\_;rw[W,AA,Z,AA,yBg,AA,zVq,AA];refine⟨_,O,.inr ⟨_,_,_,_,_,_,_,_,O,c13,.inl ?_⟩⟩;rw[yF (by omega) (by omega),Nj (by omega) (by omega)];have w:∀{v},Df j r t v m->Df (Bq j (1+V.2) Y.2) r t v (m+1):=λJ=>⟨J.TB.arm (by omega) ⟨by omega,by omega⟩,by rw[Z9];exact J.ref,by rw[Z9];exact J.K,by rw[Z9];have:=J.gen;omega⟩
   refine⟨h.ra,h.dl,?_⟩;rcases h.st with⟨y,b⟩|⟨L0,Od,f,c,ph,y,b,h3,h4,h5,h6⟩
   ·exact .inl ⟨y,w b⟩
   ·exact .inr ⟨L0,Od,f,c,ph,y,b,h3,h4,h5,w h6⟩
  ·obtain⟨r16,e16,c16,z1,z2⟩:=jV a (n:=100) (by omega)
   obtain⟨r17,e17,c17,z3,z4⟩:=jV c16 (n:=70) (by omega);obtain⟨g,s,e,z,A,B,U,_⟩:=zKK h.ra (wrap .i64 (r16.2-5)) r17.2;show∃i,(bnd (yH G 100) _)=some i/\_;rw[e16,AA,e17,AA,z,AA,A,AA];exact⟨_,O,.inr ⟨_,_,_,_,_,_,_,_,O,c17,.inl ((h.quiet B U).up 1)⟩⟩
  ·obtain⟨s2,t2,d2,a2,b2,E,F⟩:=zMS C (e:=0) (by omega) (.inl h) r t
   show∃i,(bnd (vG ⟨true,true,true,true,N⟩ j (toF j) q r o t) _)=some i/\_;rw[E,AA];exact⟨_,O,.inl ⟨_,O,O,O,a,O,F.up 1⟩⟩
 ·rintro i (⟨n,rfl,y,b⟩|⟨e,L,At,d,g,p,s,u,rfl,y,b⟩)
  ·exact⟨n,O,y,b⟩
  ·rw[FD]
   simp only;rw[show(e !=e)=false by simp,BB];by_cases he:e=10
   ·obtain⟨s2,t2,d2,a2,b2,E,F⟩:=zMS C (by omega) b p u
    rw[show(e==10)=true by simpa using he,BD,E,AA];exact⟨_,O,O,O,y,O,F⟩
   ·rw[show(e==10)=false by simpa using he,BB]
    rcases b with b|⟨_,_,h3,_⟩
    ·have h8':=b.dl.le
     rw[zNI b.ra h8' (λx R=>(b.dl.je x R).sm) d (toF d) p u,AA];exact⟨_,O,O,O,y,O,b.up 1⟩
    ·exact absurd h3 he
def yCv(f:DL L)(g:tH N=true){t:zG}(i:vT j 0=some (j,some r,0))(k:lT (toF j) 0=some (toF j,some t,0))(h:Df j r t none 0)(l:j.left=0):∃b c a d e,nJ ⟨true,true,false,false,N⟩ L L j (toF j)=some (⟨true,true,true,true,N⟩,a,toF a,0,true,some (b,c,d,e))/\ZY d e N a b c 1:=by obtain⟨b,c,a,d,e,m,n,o,p⟩:=PD f g h l (by decide) (.inl rfl);refine⟨b,c,a,d,e,?_,o⟩;unfold nJ;simp only[show vZ true=some true from O,AA,i,k,eN,m,n];rfl
def zSY{c:xT}(e:vB c):∃r N,gX c 4=some r/\tH N=true/\r.2.2.1=true/\Kv N (r.2.1,r.1,r.2.2.2.2.2.1,r.2.2.2.2.2.2.1,r.2.2.2.2.2.2.2.1,r.2.2.2.1,r.2.2.2.2.2.2.2.2,r.2.2.2.2.1) 1:=by
 obtain⟨v,g,h,b,_⟩:=zSH e (most:=4) (by omega) (by omega);obtain⟨i,j,k,d⟩:=zWJ h b;have a:=zUB (n:=2) (m:=1024) (by omega) (by omega);obtain⟨s,l,o⟩:=zIc (f:=0) a rfl (by show(1024:Int)<=1024;omega) (by show 0+1<(List.replicate 2 (0:Int)).length;simp);have p:=zLH (f:=0) a O (by show(1024:Int)<=1024;omega) (by show 0+1<(List.replicate 2 (0:Int)).length;simp);have q:(DU (Cb 2 1024) 0).K=[]:=by rw[zIO (by omega) (by omega)];rfl
 have w:(DU (Cb 2 1024) 0).gen=0:=by rw[zIO (by omega) (by omega)];rfl
 obtain⟨x,y,z,A,B,t,u⟩:=yCv b d.ok l p ⟨o,rfl,q,by omega⟩ O;unfold gX;rw[show(4:Int)=((4:Nat):Int)from O,g,AA,j,AA,show eC 2 1024=some (some (Cb 2 1024),0)from yBn (n:=2) (m:=1024) (by omega) (by omega),AA];simp only[eN];rw[show fW 2 1024=some (some (toF (Cb 2 1024)),0)from zUX (n:=2) (m:=1024) (by omega) (by omega),AA];simp only[eN];rw[show(bif((0:Int) !=0)then some true else some ((0:Int) !=0):Option Bool)=some false from O,AA,BB,t,AA];exact⟨_,i.2,O,d.ok,O,O,k,O,u⟩
def zPz(e:List Int)(h:Ji (Di .u8) e):oO e=some true:=by
 unfold oO;obtain⟨c,w,y⟩:=zWj h (most:=300) (by omega) (by omega);rw[show zAA=some true from O,AA,EG,BB,w,AA];obtain⟨r,N,z,A,g,j⟩:=zSY y;rw[z,AA,g,EG,BB]
 have key:∀(m:Int×Ep->Option (wZ (Int×Ep) (Bool⊕Unit))),(∀s,m s=bnd (bif decide (s.1<24)then bnd (uH s.2.2.1) λB=>some B else some false) λC=>bif C then bnd (Xe s.2) λq=>bif !q.1 then some (.done (.inl false))else some (.next (wrap .i64 (s.1+1),q.2))else some (.done (.inr ())))->
   ∀x,Kv N x 1->zZ m (0,x)=some (.inr ()):=λm D x E=>by
  have H:∀s:Int×Ep,(0<=s.1/\s.1<=24/\Kv N s.2 (1+2*s.1.toNat))->(∃k,m s=some (.next k)/\(0<=k.1/\k.1<=24/\Kv N k.2 (1+2*k.1.toNat))/\(24-k.1).toNat<(24-s.1).toNat)\/∃t,m s=some (.done t)/\t=.inr ():=λs F=>by
   obtain⟨i,p,c,d,f,a,s,b,t⟩:=s;obtain⟨i0,i1,g,j,l,n⟩:=F;simp only at i0 i1 g j l n;subst g l;rw[D];simp only;by_cases u:i<24
   ·rw[BK u,BD,show uH c=some (decide (c.At<(c.L.length:Int)))from O,AA,AA]
    by_cases v:c.At<(c.L.length:Int)
    ·rw[BK v,BD]
     obtain⟨r,G,I,J⟩:=zZA A j (by omega) n;refine .inl ⟨(i+1,Hu r),?_,⟨by simp only;omega,by simp only;omega,?_⟩,by simp only;omega⟩
     ·unfold Xe
      simp only;rw[G,AA,AA,I,yF (by omega) (by omega)];rfl
     ·simp only
      rw[show 1+2*(i+1).toNat=1+2*i.toNat+2 by omega];exact J
    ·rw[BV v,BB]
     exact .inr ⟨_,O,O⟩
   ·rw[BV u,BB,AA,BB]
    exact .inr ⟨_,O,O⟩
  obtain⟨t,g,j⟩:=zKO (m:=m) (λs=>0<=s.1/\s.1<=24/\Kv N s.2 (1+2*s.1.toNat)) (λs=>(24-s.1).toNat) (λo=>o=.inr ()) H (0,x) ⟨by simp,by simp,by simpa using E⟩;rw[g,j]
 refine yL (key _ (λ_=>O) _ j) O
end Go.Proofs.YtjconpohbhlcmaaGreatDoor
end
