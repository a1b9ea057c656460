/-
  Texts of this seat, put together: rules, walks, plain laws.
  Conditions: none.
-/
import Derived.Test.YtjconpohbhlcmaaGreatDoorVX1
noncomputable section
namespace Go.Proofs.YtjconpohbhlcmaaGreatDoor
open Go IntKind
set_option linter.unusedVariables false
set_option linter.defProp false
set_option linter.unusedSimpArgs false
set_option linter.unusedSectionVars false
set_option maxHeartbeats 4000000
set_option maxRecDepth 10000
variable{H:Type}
def Ji(b:H->Prop)(a:List H):Prop:=(∀x∈a,b x)/\a.length<=maxLen
inductive LC(α:Type):Type 1 where
 |v (f:α->Value) (one:∀x,(f x).oneCell'=true)
 |s {β:Type} (E:JL β) (f:α->List β)
def LC.rel(m:Hp)(x:H):LC H->Value->Prop
 |.v f _,u=>u=f x|.s E f,u=>∃A c,u=.slice A (f x).length c/\NG E A c (f x) m
def Fz{a:Type}(m:Hp)(x:a):List (LC a)->List Value->Prop
 |[],[]=>True|l::b,u::c=>l.rel m x u/\Fz m x b c|_,_=>False
def zQE{a:Type}{m:Hp}{x:a}:∀{b:List (LC a)} {c:List Value},Fz m x b c->c.length=b.length
 |[],[],_=>rfl|_::_,_::_,h=>by simp[zQE h.2]|[],_::_,h=>h.elim|_::_,[],h=>h.elim
def zRg{e:Type}{m:Hp}{x:e}:∀{g:List (LC e)} {b:List Value},Fz m x g b->∀u∈b,u.oneCell'=true
 |[],[],_,u,a=>by cases a|l::g,v::b,h,u,a=>by
  rcases EC.1 a with rfl|a
  ·cases l with
   |v f d=>rw[show u=f x from h.1];exact d x|s E f=>obtain⟨A,c,rfl,_⟩:=h.1;rfl
  ·exact zRg h.2 u a
 |[],_::_,h,_,_=>h.elim|_::_,[],h,_,_=>h.elim
variable{d5 f6:Hp}{S:H}
def LC.Dy(a:Hp.le d5 f6){l:LC H}{u:Value}(h:l.rel d5 S u):l.rel f6 S u:=by
 cases l with
 |v f b=>exact h|s E f=>obtain⟨A,c,d,e⟩:=h;exact⟨A,c,d,(Sl E A c (f S)).mono _ _ a e⟩
def zNr{a:Type}{m b:Hp}{x:a}(c:Hp.le m b):∀{d:List (LC a)} {e:List Value},Fz m x d e->Fz b x d e
 |[],[],_=>trivial|_::_,_::_,h=>⟨LC.Dy c h.1,zNr c h.2⟩|[],_::_,h=>h.elim|_::_,[],h=>h.elim
def zW(ls:List (LC H)):JL H where
 n:=ls.length
 rel m x cs:=Fz m x ls cs
 len _ _ _ h:=zQE h
 one _ _ _ h:=zRg h
 mono _ _ _ _ hm h:=zNr hm h
def PO{a:Type}:List (LC a)->Type
 |[]=>Unit|.v _ _::r=>PO r|.s _ _::r=>(Option Addr×Nat)×PO r
def rP{a:Type}(x:a):(ls:List (LC a))->PO ls->List Value
 |[],_=>[]|.v f _::r,e=>f x::rP x r e|.s _ f::r,e=>.slice e.1.1 (f x).length e.1.2::rP x r e.2
def tK{a:Type}(x:a):(ls:List (LC a))->PO ls->List As
 |[],_=>[]|.v _ _::r,e=>tK x r e|.s E f::r,e=>.ro (Sl E e.1.1 e.1.2 (f x))::tK x r e.2
def qN{a:Type}{x:a}:∀(b:List (LC a)) (e:PO b),jD (tK x b e)=true
 |[],_=>rfl|.v _ _::r,e=>qN r e|.s _ _::r,e=>qN r e.2
def Jj{k:Type}{m:Hp}{x:k}:∀{b:List (LC k)} {d:List Value},Fz m x b d->∃e:PO b,d=rP x b e/\∀r,As.ro r∈tK x b e->r.p m
 |[],[],_=>⟨(),O,λ_ h=>by cases h⟩|.v f l::b,u::d,h=>by obtain⟨e,g,i⟩:=Jj h.2;exact⟨e,by rw[g,show u=f x from h.1];rfl,i⟩
 |.s E f::b,u::d,h=>by
  obtain⟨A,c,rfl,j⟩:=h.1;obtain⟨e,g,i⟩:=Jj h.2;refine⟨((A,c),e),by rw[g];rfl,λr a=>?_⟩;rcases EC.1 a with a|a
  ·injection a with a;subst a;exact j
  ·exact i r a
 |[],_::_,h=>h.elim|.v _ _::_,[],h=>h.elim|.s _ _::_,[],h=>h.elim
def H6{a:Type}{m:Hp}{x:a}:∀{ls:List (LC a)} (e:PO ls),(∀r,As.ro r∈tK x ls e->r.p m)->Fz m x ls (rP x ls e)
 |[],_,_=>trivial|.v f b::ls,e,h=>⟨O,H6 (ls:=ls) e h⟩|.s E f::ls,e,h=>⟨⟨e.1.1,e.1.2,O,h _ (DZ ..)⟩,H6 (ls:=ls) e.2 λr c=>h r (EX _ c)⟩
def cJ{b:Type}(x:b):∀(a:List (LC b)) (e:PO a),(rP x a e).length=a.length
 |[],_=>rfl|.v _ _::r,e=>by simp[rP,cJ x r e]|.s _ _::r,e=>by simp[rP,cJ x r e.2]
def H7{c:Type}(x:c):∀(d:List (LC c)) (e:PO d),∀u∈rP x d e,u.oneCell'=true
 |[],_,_,a=>by cases a|.v f b::r,e,u,a=>by
  rcases EC.1 a with rfl|a
  ·exact b x
  ·exact H7 x r e u a
 |.s _ f::r,e,u,a=>by
  rcases EC.1 a with rfl|a
  ·rfl
  ·exact H7 x r e.2 u a
def lY(a:List (LC H))(b:List (H×PO a)):List (List Value):=b.map λp=>rP p.1 a p.2
def aI{b:Type}(a:List (LC b)):List (b×PO a)->List As
 |[]=>[]|p::r=>tK p.1 a p.2++aI a r
def zLN(a:List (LC H))(b:List (H×PO a)):∀r∈lY a b,r.length=a.length/\∀u∈r,u.oneCell'=true:=λr c=>by obtain⟨p,_,rfl⟩:=FM.1 c;exact⟨cJ _ _ _,H7 _ _ _⟩
def zHq:∀{F G:List As},jD F=true->jD G=true->jD (F++G)=true
 |[],_,_,h=>h|.ro _::F,_,h,k=>zHq (F:=F) h k|.res _::_,_,h,_=>by simp[jD]at h
def zIy{b:Type}(a:List (LC b)):∀(c:List (b×PO a)),jD (aI a c)=true
 |[]=>rfl|p::r=>zHq (qN a p.2) (zIy a r)
def Vm{b:Type}{a:List (LC b)}:∀{c:List (b×PO a)} {p:b×PO a},p∈c->∀x∈tK p.1 a p.2,x∈aI a c
 |q::r,p,h,x,d=>by
  rcases EC.1 h with rfl|h
  ·exact IY _ d
  ·exact JP _ (Vm h x d)
variable{d0:List (LC H)}
def zLX{c:List (H×PO d0)}(h:∀r,As.ro r∈aI d0 c->r.p d5):Aa (zW d0) (c.map (·.1)) (lY d0 c) d5:=by refine⟨by simp[lY],λj x r d b=>?_⟩;simp only[lY,IJ,LP]at d b;obtain⟨p,hp,rfl⟩:=d;obtain⟨e,a,rfl⟩:=b;rw[hp]at a;injection a with a;subst a;exact H6 p.2 λr b=>h r (Vm (MQ hp) _ b)
def yQ(E:JL H)(e:Nat)(A:Option Addr)(c:Nat)(xs:List H):ah where
 gs:=fX A c
 p _:=True
 loc _ _ _ h:=h
 q m z:=∃rows,fJ E.n e A xs.length c rows m/\Aa E xs rows z
 ai m m' z z' hm hz h:=by obtain⟨rows,h1,h2⟩:=h;exact⟨rows,(Own E.n e A xs.length c rows).loc m m' hm h1,(WG E xs rows).mono _ _ hz h2⟩
variable{Y:Act->World->Prop}{V:Array Edge}{J:Array Oper}{t:Bool}{q:Code}{B:Env}{Q:Exit->Act->World->Prop}{e b5:Int}{a9:IntKind}{F G:List As}{L:List Oper}{X:List Oper->Act->World->Prop}{E:List Value}{j D I W y f a6 b8 c9:Nat}{f0:Op}{o x:Operand}{A a8:Option Addr}{m:Option Nat}{P:Program}{U:String}{N i e8:TI}{d6:Tr}{h:Value}{w:World}{C:World->Prop}{c5:JL H}{M r b9:List H}
section
variable[T:GZ P]
def lM:∀{G F:List As},jD G=true->yU (G++F)=yU F:=λ{G F} h=>by rw[pN,eD λx a=>by obtain⟨r,rfl⟩:=dM h x a;rfl];rfl
def Sat.OW{w:World}:∀(G:List As),jD G=true->(∀r,As.ro r∈G->r.p (KO (yU F) w))->Sat F w->Sat (G++F) w
 |[],_,_,h=>h|.ro r::G,a,b,h=>by have c:=Sat.OW G a (λr d=>b r (EX _ d)) h;refine c.IW r ?_;rw[lM (show jD G=true from a)];exact b r (DZ ..)|.res _::_,a,_,_=>by simp[jD]at a
def gD.ros(h:gD F G)(a:Sat G w):∀r,As.ro r∈F->r.p (KO (yU G) w):=λr b=>a.ro (h.mem _ b)
def Sat.Dz(h:Sat (.res (yQ c5 j A D M)::F) w):∃rows,Aa c5 M rows (KO (yU (.res (yQ c5 j A D M)::F)) w)/\Sat (.res (Own c5.n j A M.length D rows)::F) w:=by
 obtain⟨rows,b,c⟩:=h.PW (r:=yQ c5 j A D M) (DZ ..);refine⟨rows,c,h.nodup,λx a=>?_⟩;cases a with
 |head=>exact⟨(h.all _ (DZ ..)).1,b,trivial⟩|tail _ a=>exact h.all _ (EX _ a)
def Sat.yj{E:JL H}{n:Nat}{rows:List (List Value)}(h:Sat (.res (Own E.n j A n D rows)::F) w)(b:n=M.length)(c:Aa E M rows (KO (yU (.res (Own E.n j A n D rows)::F)) w)):Sat (.res (yQ E j A D M)::F) w:=by
 subst b;refine⟨h.nodup,λx a=>?_⟩;cases a with
 |head=>exact⟨(h.all _ (DZ ..)).1,trivial,rows,(h.all _ (DZ ..)).2.1,c⟩|tail _ a=>exact h.all _ (EX _ a)
def Sat.SV(h:Sat F w)(E:JL H)(e:Nat):Sat (.res (yQ E e none 0 [])::F) w:=
 h.KA (Ext.refl w) (yQ E e none 0 []) (show(fX none 0).Nodup from nD _ _) (λk a=>absurd ((eF (A:=none) (c:=0)).1 a).1 (by omega)) trivial ⟨[],fJ.nil _ _ _,O,λj x r b=>by simp at b⟩
def Sat.JW(h:Sat (.res (yQ c5 j A D M)::F) w):Sat (.ro (Sl c5 A D M)::F) w:=by
 obtain⟨rows,a,b⟩:=h.Dz;have c:Sat (.res (Own c5.n j A M.length D rows)::.ro (WG c5 M rows)::F) w:=(b.IW (WG c5 M rows) a).perm (YK ..);have e:=Sat.Du (E:=c5) (xs:=M) c O λm f=>f _ (DZ ..) _ O
 exact(mA.k (mA.d mA.z)).sat e
def Sat.jq{ls:List (LC H)}{e:Nat}(a:List (H×PO ls))(b:(lY ls a).flatten=E)(c:a.map (·.1)=M)(i:Nat.ble a.length 16777216=true)(d:gD (aI ls a) F)(h:Sat (.res (Box j e E)::F) w):Sat (.res (yQ (zW ls) e (some ⟨j,0,none⟩) M.length M)::F) w:=by
 subst c
 have f:Sat (.res (Own ls.length e (some ⟨j,0,none⟩) a.length a.length (lY ls a))::F) w:=
  Sat.yg b (by simp[lY]) (zLN ls a) (by have:=EU i;simp only[maxLen];omega) h
 have g:(a.map (·.1)).length=a.length:=by simp
 rw[g];exact f.yj g.symm (zLX λr k=>f.ro (EX _ (d.mem _ k)))
def St.ja[g:Walk P J X]{t:Nat}(hy:CO M e=some S)(v:Nat.blt D j=true)(z:ev B o=some (.slice A y f))(C:ev B x=some (.int a9 e))(E:As.ro (Sl (zW d0) A f M)∈F)(m:y=M.length)(G:xG T.tt t=some N)(c:N.desc=.slice W)(H:xG T.tt W=some i)(K:i.size=d0.length)(k:∀b h (d:PO d0),St w j ((D,.pointer (some ⟨b,h,none⟩))::B) (.ro (gN b h (rP S d0 d))::(tK S d0 d++F)) (X L)):St w j B F (X (⟨some D,.indexAddr t o x,I,U,V,none⟩::L)):=
 St.idx (zW d0) v z C E m hy G c H K λb h u a l Q p R q Y=>by have n:Fz (KO (yU F) l) S d0 u:=q.ro (r:=Rel (zW d0) S u) (by simp);obtain⟨d,rfl,s⟩:=Jj n;have Z:Sat F l:=q.tail.tail;have hc:=q.ro (r:=gN b h (rP S d0 d)) (by simp);refine k b h d a l Q p R (Sat.IW (Sat.OW _ (qN d0 d) s Z) _ ?_) Y;rw[lM (qN d0 d)];exact hc
def St.ay[b:Walk P J X]{t:Nat}(hy:CO M e=some S)(z:Nat.blt D j=true)(C:ev B o=some (.slice A f a6))(E:ev B x=some (.int a9 e))(G:As.res (yQ c5 y A a6 M)∈F)(d:f=M.length)(H:xG T.tt t=some N)(c:N.desc=.slice W)(K:xG T.tt W=some i)(Q:i.size=c5.n)(k:∀g,A=some ⟨g,0,none⟩->St w j ((D,.pointer (some ⟨g,e.toNat*c5.n,none⟩))::B) F (X L)):St w j B F (X (⟨some D,.indexAddr t o x,I,U,V,none⟩::L)):=
 λa l u q r v R=>by
  obtain⟨Y,Z,_⟩:=rC hy;obtain⟨rows,m,_⟩:=v.PW G;subst d;rcases m.2.2 with⟨h,_⟩|⟨g,cur,fr,_,hA,_⟩
  ·omega
  ·subst hA
   obtain⟨dd,hu,s⟩:=T.ok.desc H;have p:(⟨g,0,none⟩:Addr).add (e.toNat*c5.n)=⟨g,e.toNat*c5.n,none⟩:=pL g _;refine b.val _ _ _ _ _ (wK O _) (λw' he=>?_) (k g O _ l (by simp[Act.put,u]) q (r.put (u▸EU z)) v R);simp[execOp,Instr.indexAt,r.eval C,r.eval E,asIntOf,CY hu,TD.of_slice (s.trans c),xC T.ok K,Q,Y,Z,p]
def St.SX(r:As.ro (Sl (zW d0) A D M)∈F)(hy:CO M e=some S)(k:∀b o (f:PO d0),(∃m,A=some ⟨b,m,none⟩/\o=m+e.toNat*d0.length)->St w j B (.ro (gN b o (rP S d0 f))::(tK S d0 f++F)) Y):St w j B F Y:=
 λa d t i u n v=>by
  obtain⟨y,z,p⟩:=rC hy;have g:=n.ro r;cases A with
  |none=>
   have:=g.2.2.1 O;subst this;simp at p
  |some q=>
   obtain⟨c,C,h,x⟩:=g.2.2.2 q rfl _ _ p;obtain⟨f,rfl,l⟩:=Jj h;obtain⟨b,o,s⟩:=q;simp only at c;subst c;refine k b _ f ⟨o,O,O⟩ a d t i u (Sat.IW (Sat.OW _ (qN d0 f) l n) _ ?_) v;rw[lM (qN d0 f)];exact x
def St.ZG(i:As.res (yQ c5 I A D M)∈F)(hy:CO M e=some S)(k:∀g,A=some ⟨g,0,none⟩->St w j B F Y):St w j B F Y:=
 λa b l d m f n=>by
  obtain⟨q,r,_⟩:=rC hy;obtain⟨rows,c,_⟩:=f.PW i;rcases c.2.2 with⟨h,_⟩|⟨g,o,fr,_,p,_⟩
  ·omega
  ·exact k g p a b l d m f n
def Rd.LM{t n':Nat}(hy:CO M e=some S)(k:ev B o=some (.slice (some ⟨f,0,none⟩) W y))(l:ev B x=some (.int a9 e))(c:W=M.length)(m:xG T.tt t=some N)(b:N.desc=.slice I)(n:xG T.tt I=some i)(p:i.size=n'):Rd P F B (.indexAddr t o x) (.pointer (some ⟨f,e.toNat*n',none⟩)):=
 λa w j D U V u h v=>by obtain⟨q,r,z⟩:=rC hy;subst c;obtain⟨A,s,g⟩:=T.ok.desc m;have d:(⟨f,0,none⟩:Addr).add (e.toNat*n')=⟨f,e.toNat*n',none⟩:=pL f _;simp[execOp,Instr.indexAt,h.eval k,h.eval l,asIntOf,CY s,TD.of_slice (g.trans b),xC T.ok n,p,q,r,d]
def Rd.ja{t:Nat}(l:∃c,A=some ⟨a6,c,none⟩/\b8=c+e.toNat*W)(hy:CO M e=some S)(m:ev B o=some (.slice A y f))(n:ev B x=some (.int a9 e))(d:y=M.length)(p:xG T.tt t=some N)(b:N.desc=.slice I)(q:xG T.tt I=some i)(r:i.size=W):Rd P F B (.indexAddr t o x) (.pointer (some ⟨a6,b8,none⟩)):=
 λa w j D U V z k C=>by
  obtain⟨c,rfl,rfl⟩:=l;obtain⟨s,u,E⟩:=rC hy;subst d;obtain⟨G,v,h⟩:=T.ok.desc p
  have g:(⟨a6,c,none⟩:Addr).add (e.toNat*W)=⟨a6,c+e.toNat*W,none⟩:=by
   unfold Addr.add;split
   ·rename_i hz;rw[hz];rfl
   ·rfl
  simp[execOp,Instr.indexAt,k.eval m,k.eval n,asIntOf,CY v,TD.of_slice (h.trans b),xC T.ok q,r,s,u,g]
def zRH{rows:List (List Value)}(h:Aa c5 M rows d5)(hy:CO M e=some S):∃a,rows[e.toNat]?=some a/\c5.rel d5 S a:=by
 obtain⟨d,f,c⟩:=rC hy;have b:e.toNat<rows.length:=by rw[h.1];omega
 exact⟨rows[e.toNat],CJ b,h.2 _ _ _ c (CJ b)⟩
def St.QZ[b:Walk P J X]{ls:List (LC H)}{t:Nat}(d:Nat)(v:PO ls->Value)(hy:CO M e=some S)(z:Nat.blt D j=true)(A:ev B o=some (.pointer (some ⟨f,a6,none⟩)))(s:As.res (yQ (zW ls) W (some ⟨f,0,none⟩) y M)∈F)(m:a6=e.toNat*ls.length+d)(C:∀c,kA T.tt t (rP S ls c) d=some (v c))(k:∀c,St w j ((D,v c)::B) (tK S ls c++F) (X L)):St w j B F (X (⟨some D,.load t o,I,U,V,none⟩::L)):=
 λa h u n x p E=>by obtain⟨rows,g,i⟩:=p.PW s;obtain⟨G,K,l⟩:=zRH i hy;obtain⟨c,rfl,q⟩:=Jj l;have r:=(p.all _ s).1;refine b.val _ _ _ _ (v c) (wK O _) (λN Q=>lD T.ok (by rw[x.eval A,m]) (C c) (zBS ((Own ls.length W (some ⟨f,0,none⟩) M.length y rows).loc (hp h) (hp N) (λk R=>(Q.block k (r k R)).symm) g) K) _ _) ?_;exact k c _ h (by simp[Act.put,u]) n (x.put (u▸EU z)) (Sat.OW _ (qN ls c) q p) E
def St.Gf{ls:List (LC H)}{t:Nat}{u:H}(p:Nat)(A:PO ls->PO ls)(hu:CO M e=some u)(hz:uF M e S=some r)(i:ev B o=some (.pointer (some ⟨y,f,none⟩)))(hy:ev B x=some h)(hD:Del F (.res (yQ (zW ls) I (some ⟨y,0,none⟩) W M)) G)(C:f=e.toNat*ls.length+p)(hi:xG T.tt t=some N)(K:Nat.beq (zc h).length N.size=true)(h1:((zc h).all λu=>u.oneCell')=true)(hs:∀c,sN (rP u ls c) p (zc h) some=some (rP S ls (A c)))(R:∀c,gD (tK S ls (A c)) (tK u ls c++G))(k:St w j B (.res (yQ (zW ls) I (some ⟨y,0,none⟩) W r)::G) (wpList P J Q L)):St w j B F (wpList P J Q (⟨none,.store t o x,D,U,V,none⟩::L)):=
 λa l X Y ha hf hw=>by
  obtain⟨rows,m,Z⟩:=(hf.front hD).Dz;obtain⟨row,hr,v⟩:=zRH m hu;obtain⟨c,rfl,hex⟩:=Jj v;have hf3:Sat (tK u ls c++(.res (Own (zW ls).n I (some ⟨y,0,none⟩) M.length W rows)::G)) l:=Sat.OW _ (qN ls c) hex Z
  have hf4:Sat (.ro (WG (zW ls) M rows)::.res (Own (zW ls).n I (some ⟨y,0,none⟩) M.length W rows)::(tK u ls c++G)) l:=by
   refine Sat.IW (hf3.perm (MX)) (WG (zW ls) M rows) ?_
   have hb:yU (.res (Own (zW ls).n I (some ⟨y,0,none⟩) M.length W rows)::(tK u ls c++G))=yU (.res (yQ (zW ls) I (some ⟨y,0,none⟩) W M)::G):=by simp only[yU,lM (qN ls c)];rfl
   rw[hb];exact m
  refine St.Dn (F:=.ro (WG (zW ls) M rows)::.res (Own ls.length I (some ⟨y,0,none⟩) M.length W rows)::(tK u ls c++G)) (G:=.ro (WG (zW ls) M rows)::(tK u ls c++G)) p i hy (.s .z) hr C hi K h1 (hs c) ?_ a l X Y ha hf4 hw;intro a2 w2 hs2 Ea ha2 q hw2;refine k a2 w2 hs2 Ea ha2 ?_ hw2
  have hR:Aa (zW ls) M rows (KO (yU (.res (Own ls.length I (some ⟨y,0,none⟩) M.length W (rows.set e.toNat (rP S ls (A c))))::.ro (WG (zW ls) M rows)::(tK u ls c++G))) w2):=
   q.ro (r:=WG (zW ls) M rows) (by simp)
  unfold uF at hz;split at hz
  ·injection hz with hz
   subst hz;rename_i hq
   have h6:Sat (.res (yQ (zW ls) I (some ⟨y,0,none⟩) W (M.set e.toNat S))::.ro (WG (zW ls) M rows)::(tK u ls c++G)) w2:=by
    refine Sat.yj (E:=zW ls) q (by simp) ⟨by simp[hR.1],λb o d i g=>?_⟩;rw[KR]at i g;by_cases hj:e.toNat=b
    ·subst hj
     rw[AQ O]at i g;split at i
     ·split at g
      ·injection i with i
       injection g with g;subst i;subst g;refine H6 (A c) λd hrm=>q.ro (r:=d) ?_
       exact EX _ (EX _ ((R c).mem _ hrm))
      ·cases g
     ·cases i
    ·rw[AP hj]at i g
     exact hR.2 b o d i g
   refine h6.NZ ?_ λx hy=>?_
   ·have:=h6.nodup
    simpa[yU,lM (qN ls c),As.gs]using this
   ·rcases EC.1 hy with rfl|hy
    ·exact DZ ..
    ·exact EX _ (EX _ (JP _ hy))
  ·cases hz
def St.QO{E:JL H}{t:Nat}(hz:Go.Proofs.YtjconpohbhlcmaaGreatDoor.app c9 M r=some b9)(hd:Nat.blt D j=true)(hs:ev B o=some (.slice A b8 a6))(p:ev B x=some h)(hD:Del F (.res (yQ E y A a6 M)) G)(q:b8=M.length)(hi:xG T.tt t=some N)(e:N.desc=.slice y)(Y:xG T.tt y=some e8)(hsz:e8.size=E.n)(hby:e8.bytes=c9)(hzs:Nat.beq (zc e8.zero).length E.n=true)(hm:f=r.length)(s:∀l,Sat F l->∃rows,Aa E r rows (KO (yU F) l)/\(∀g∈rows,g.length=E.n/\∀u∈g,u.oneCell'=true)/\ZN P E.n h f rows.flatten l)(hi2:xG T.tt W=some i)(hd2:Lj i.desc=true)(k:∀v C,St w j ((D,.slice v b9.length C)::B) (.res (yQ E y v C b9)::G) (wpList P J Q L)):St w j B F (wpList P J Q (⟨some D,.call {callee:=.builtin .append,args:=#[o,x],argTypes:=#[t,W]},I,U,V,none⟩::L)):=
 λa l hs' hdf ha hf hw=>by
  obtain⟨rfl,h2,h3⟩:=F7 hz;subst q;subst hm;subst hby;obtain⟨b,K,hn2,hn3⟩:=s l hf;have iw:=hf.front hD;obtain⟨rows,R,hf2⟩:=iw.Dz;have hb:yU F=yU F:=rfl;have S:Aa E r b (KO (yU (.res (Own E.n y A M.length a6 rows)::G)) l):=(WG E r b).mono _ _ (Um l λkk hk=>(zJm hD.perm).mem_iff.2 hk) K;have hf3:Sat (.ro (WG E r b)::.ro (WG E M rows)::.res (Own E.n y A M.length a6 rows)::G) l:=(hf2.IW (WG E M rows) R).IW (WG E r b) S;refine zMN (F:=.ro (WG E r b)::.ro (WG E M rows)::.res (Own E.n y A M.length a6 rows)::G) b hs' hdf ha hf3 hw hd hs p (IQ 2 O) hi e Y hsz hzs hn3 O K.1 hn2 (by simpa[maxLen]using h3) h2 hi2 hd2 λv C=>?_
  intro a2 w2 hs2 Ea ha2 m hw2;have e1:(M++r).length=M.length+r.length:=by simp
  refine(e1▸k v C) a2 w2 hs2 Ea ha2 ?_ hw2;have c:=m.ro (r:=WG E M rows) (by simp);have X:=m.ro (r:=WG E r b) (by simp)
  have h6:Sat (.res (yQ E y v C (M++r))::.ro (WG E r b)::.ro (WG E M rows)::G) w2:=by
   refine Sat.yj (E:=E) m e1.symm ⟨by simp[c.1,X.1],λe8 x g p Z=>?_⟩;by_cases Y:e8<M.length
   ·rw[NT Y]at p
    rw[NT (by rw[c.1];exact Y)]at Z;exact c.2 e8 x g p Z
   ·rw[JM (by omega)]at p
    rw[JM (by rw[c.1];omega),c.1]at Z;exact X.2 _ x g p Z
  exact(mA.k (mA.d (mA.d mA.z))).sat h6
def aT{ls:List (LC H)}(b:List (H×PO ls))(h:As.res (Box j D E)∈F)(c:(lY ls b).flatten=E)(d:b.map (·.1)=M)(i:I=M.length)(e:gD (aI ls b) F):∀w,Sat F w->∃rows,Aa (zW ls) M rows (KO (yU F) w)/\(∀r∈rows,r.length=(zW ls).n/\∀u∈r,u.oneCell'=true)/\ZN P (zW ls).n (.slice (some ⟨j,0,none⟩) I W) I rows.flatten w:=λw g=>by subst d;subst c;subst i;have a:=zLN ls b;refine⟨lY ls b,zLX (e.ros g),a,zTO h (by rw[uZ a];simp[lY,zW]) ?_ w g⟩;rw[List.all_eq_true];intro u k;obtain⟨r,l,f⟩:=UA.1 k;exact(a r l).2 u f
def zUN{a:List (H×PO d0)}(b:a.map (·.1)=M)(hy:CO M e=some S):0<=e/\e<(a.length:Int)/\∃c,a[e.toNat]?=some (S,c):=by subst b;obtain⟨g,d,f⟩:=rC hy;simp only[FQ,IJ,LP]at d f;obtain⟨⟨j,c⟩,h,i⟩:=f;subst i;exact⟨g,d,c,h⟩
def zNK{b:List (H×PO d0)}{c:PO d0}(h:b[j]?=some (S,c)):∃pre a,(lY d0 b).flatten=pre++(rP S d0 c++a)/\pre.length=j*d0.length:=by
 induction b generalizing j with
 |nil=>simp at h|cons p r d=>
  cases j with
  |zero=>
   simp at h;subst h;exact⟨[],(lY d0 r).flatten,by simp[lY],by simp⟩
  |succ j=>
   obtain⟨pre,a,e,f⟩:=d (by simpa using h);refine⟨rP p.1 d0 p.2++pre,a,?_,?_⟩
   ·show rP p.1 d0 p.2++(lY d0 r).flatten=_
    rw[e];simp
   ·rw[ER,cJ,f,FU]
    omega
def St.Ae[b:Walk P J X]{t sz:Nat}(hy:CO M e=some S)(p:Nat.blt D j=true)(q:ev B o=some (.pointer (some ⟨f,a6,none⟩)))(r:ev B x=some (.int a9 e))(s:xG T.tt t=some N)(d:N.desc=.array y W)(g:y=M.length)(u:xG T.tt W=some i)(v:i.size=sz)(k:St w j ((D,.pointer (some ⟨f,a6+e.toNat*sz,none⟩))::B) F (X L)):St w j B F (X (⟨some D,.indexAddr t o x,I,U,V,none⟩::L)):=by
 obtain⟨z,A,_⟩:=rC hy;refine St.val p (λa c n _=>?_) k;obtain⟨E,C,m⟩:=T.ok.desc s
 have l:(⟨f,a6,none⟩:Addr).add (e.toNat*sz)=⟨f,a6+e.toNat*sz,none⟩:=by
  unfold Addr.add;split
  ·rename_i h;rw[h];rfl
  ·rfl
 simp[execOp,n.eval q,n.eval r,Instr.indexAt,asIntOf,CY C,TD.of_array (m.trans d),z,g,A,Instr.sureAddr,xC T.ok u,v,l]
def St.Bj[b:Walk P J X]{ls:List (LC H)}{t:Nat}(g:Nat)(pre h:List Value)(m:List (H×PO ls))(v:PO ls->Value)(hy:CO M e=some S)(R:Nat.blt D j=true)(Y:ev B o=some (.pointer (some ⟨W,f,none⟩)))(Z:As.res (Box W y E)∈F)(n:pre++((lY ls m).flatten++h)=E)(ho:pre.length=a6)(q:m.map (·.1)=M)(s:gD (aI ls m) F)(x:f=a6+e.toNat*ls.length+g)(hv:∀d,kA T.tt t (rP S ls d) g=some (v d))(k:∀d,St w j ((D,v d)::B) (tK S ls d++F) (X L)):St w j B F (X (⟨some D,.load t o,I,U,V,none⟩::L)):=
 λa c G z K A hw=>by
  obtain⟨h0,hlt,d,l⟩:=zUN q hy;obtain⟨N,bg,C,hp2⟩:=zNK l;have jw:∀r,As.ro r∈tK S ls d->r.p (KO (yU F) c):=λr hr=>A.ro (s.mem _ (Vm (MQ l) _ hr))
  refine b.val _ _ _ _ (v d) (wK O _) (λw' he=>lD (o:=a6+e.toNat*ls.length) T.ok (by rw[K.eval Y,x]) (hv d) (λi u Q=>?_) _ _) (k d _ c (by simp[Act.put,G]) z (K.put (G▸EU R)) (Sat.OW _ (qN ls d) jw A) hw);refine Box.cell ((A.ext he).res Z) ?_;have hi:=(FT.1 Q).1;rw[<-n,JM (by omega),C,FH,JM (by omega),FH,NT (by omega),<-Q];congr 1;omega
def St.Qy{ls:List (LC H)}{t:Nat}{u:H}(A:Nat)(pre s:List Value)(C:List (H×PO ls))(R:PO ls->PO ls)(hu:CO M e=some u)(hz:uF M e S=some r)(K:ev B o=some (.pointer (some ⟨I,y,none⟩)))(hy:ev B x=some h)(hD:Del F (.res (Box I W E)) G)(hcs:pre++((lY ls C).flatten++s)=E)(ho:pre.length=f)(hys:C.map (·.1)=M)(hin:gD (aI ls C) G)(hpp:y=f+e.toNat*ls.length+A)(hi:xG T.tt t=some N)(hsz:Nat.beq (zc h).length N.size=true)(h1:((zc h).all λu=>u.oneCell')=true)(hs:∀g,sN (rP u ls g) A (zc h) some=some (rP S ls (R g)))(hin':∀g,gD (tK S ls (R g)) (tK u ls g++G))(k:∀Y:List (H×PO ls),Y.map (·.1)=r->St w j B (.res (Box I W (pre++((lY ls Y).flatten++s)))::(aI ls Y++G)) (wpList P J Q L)):St w j B F (wpList P J Q (⟨none,.store t o x,D,U,V,none⟩::L)):=
 λa m hs' hdf ha hf hw=>by
  obtain⟨h0,hlt,g,X⟩:=zUN hys hu;have hf':=hf.front hD;have jw:∀d,As.ro d∈tK u ls g->d.p (KO (yU (.res (Box I W E)::G)) m):=λd hr=>hf'.ro (EX _ (hin.mem _ (Vm (MQ X) _ hr)))
  obtain⟨i,bg,Z,hp2⟩:=zNK X;have hqn:e.toNat<C.length:=(FT.1 X).1;have hf3:Sat (.res (Box I W E)::(tK u ls g++G)) m:=(Sat.OW _ (qN ls g) jw hf').perm MX;have q:(rP u ls g).length=ls.length:=cJ _ _ _;have hse:=cI _ _ _ _ _ (hs g);have Eb:=hse.2;injection Eb with Eb
  have Gz:∀(l:List Value) (n:Nat) (v d:List Value),n+v.length<=l.length->d=l.take n++v++l.drop (n+v.length)->sN l n v some=some d:=by
   have gen:∀(l:List Value) (n:Nat) (v:List Value) (k:List Value->Option (List Value)),n+v.length<=l.length->sN l n v k=k (l.take n++v++l.drop (n+v.length)):=by
    intro l;induction l with
    |nil=>intro n v k b;simp at b;obtain⟨rfl,rfl⟩:=b;simp[sN]
    |cons c l ih=>
     intro n v k b;cases n with
     |zero=>
      cases v with
      |nil=>simp[sN]|cons h v=>simp only[sN];rw[ih 0 v _ (by simp at b⊢;omega)];simp
     |succ n=>
      simp only[sN];rw[ih n v _ (by simp at b⊢;omega)];have:n+1+v.length=(n+v.length)+1:=by omega
      simp[this]
   intro l n v d b hr;rw[gen l n v _ b,hr]
  have hye:(C.set e.toNat (S,R g)).map (·.1)=r:=by
   unfold uF at hz;split at hz
   ·injection hz with hz
    rw[<-hz,<-hys,UQ]
   ·cases hz
  have hset:(lY ls (C.set e.toNat (S,R g))).flatten=i++(rP S ls (R g)++bg):=by
   have e1:lY ls (C.set e.toNat (S,R g))=(lY ls C).set e.toNat (rP S ls (R g)):=by simp[lY,UQ]
   have hrow:(lY ls C)[e.toNat]?=some (rP u ls g):=by simp[lY,X]
   rw[e1,zEj (sz:=ls.length) (lY ls C) e.toNat _ _ (λd hr=>(zLN ls C d hr).1) hrow (cJ _ _ _),Z,<-hp2];rw[OU,FH];congr 1;congr 1;rw[<-FH,UC,List.drop_of_length_le (by simp[q])];simp[q]
  have hcs':sN E y (zc h) some=some (pre++((lY ls (C.set e.toNat (S,R g))).flatten++s)):=by
   refine Gz _ _ _ _ ?_ ?_
   ·rw[<-hcs,Z]
    simp only[ER,q];have:=hse.1;rw[q]at this;omega
   ·have hl1:=hse.1
    rw[q]at hl1;have aBs:y=pre.length+(i.length+A):=by omega
    rw[hset,<-Eb,<-hcs,Z,aBs]
    have e3:(pre++(i++(rP u ls g++bg)++s)).take (pre.length+(i.length+A))=pre++(i++(rP u ls g).take A):=by rw[oz,FH,oz,FH,RG (by omega)]
    have e4:(pre++(i++(rP u ls g++bg)++s)).drop (pre.length+(i.length+A)+(zc h).length)=(rP u ls g).drop (A+(zc h).length)++(bg++s):=by rw[LG,pq,FH,LG,pq,FH,RH (by omega)]
    rw[e3,e4];simp only[FH]
  refine St.store (F:=.res (Box I W E)::(tK u ls g++G)) y K hy O hi hsz h1 .z hcs' ?_ a m hs' hdf ha hf3 hw;intro a2 w2 hs2 Ea ha2 hf5 hw2;refine k _ hye a2 w2 hs2 Ea ha2 ?_ hw2
  have hin2:∀o∈aI ls (C.set e.toNat (S,R g)),o∈tK u ls g++G:=by
   intro o K
   have:∀(l:List (H×PO ls)),(∀y∈l,∀o∈tK y.1 ls y.2,o∈tK u ls g++G)->o∈aI ls l->o∈tK u ls g++G:=by
    intro l;induction l with
    |nil=>intro _ b;cases b
    |cons y l ih=>
     intro hl b;rcases DW.1 b with b|b
     ·exact hl y (DZ ..) o b
     ·exact ih (λp' hp'=>hl p' (EX _ hp')) b
   refine this _ (λy hp o K=>?_) K;rcases TR hp with hp|hp
   ·exact JP _ (hin.mem _ (Vm hp o K))
   ·subst hp
    exact(hin' g).mem _ K
  have hro:∀o∈aI ls (C.set e.toNat (S,R g)),∃d,o=.ro d:=dM (zIy ls _);refine hf5.NZ ?_ λo K=>?_
  ·have:=hf5.nodup
   simpa[yU,lM (qN ls g),lM (zIy ls _),As.gs]using this
  ·rcases EC.1 K with rfl|K
   ·exact DZ ..
   ·rcases DW.1 K with K|K
    ·exact EX _ (hin2 o K)
    ·exact EX _ (JP _ K)
def Rd.Dt{t:Nat}{d:List Int}(r:As.ro (FB BQ A f d)∈F)(s:ev B o=some (.slice A y f))(c:y=d.length)(u:xG T.tt I=some N)(b:N.desc=.slice W)(v:xG T.tt W=some i)(e:i.desc=.int .u8)(x:xG T.tt t=some e8)(h:e8.desc=.string):Rd P F B (.convert I t o) (.string (iR d)):=λa w j D U V g z C=>by obtain⟨G,k,l⟩:=T.ok.desc u;obtain⟨H,m,n⟩:=T.ok.desc v;obtain⟨J,p,q⟩:=T.ok.desc x;subst c;have:=qm (P:=P) w I t W A d.length f (TD.of_slice (l.trans b)▸k) (TD.of_int (n.trans e)▸m) (TD.of_string (q.trans h)▸p);simp only[execOp,z.eval s,EJ,this,zUM (lI (E:=BQ) r w C),EO,FX]
def Rd.shl{t c:Nat}{k d:IntKind}{x y z:Int}{a b:Operand}(h:cK k x y=some z)(e:ev B a=some (.int k x))(hy:ev B b=some (.int d y)):Rd P F B (.binOp .shl t a b c) (.int k z):=
 Rd.p (by
  unfold cK at h;split at h
  ·cases h
  ·rename_i f;injection h with h;subst h;simp[ZM,e,hy,Jd,Ky,f])
def St.WQ(h:As.ro (Sl c5 A D M)∈F)(hz:Go.Proofs.YtjconpohbhlcmaaGreatDoor.sub M e b5=some r)(k:∀d f,(d=(if D=e.toNat then A else A.map (·.add (e.toNat*c5.n)))/\f=D-e.toNat)->St w j B (.ro (Sl c5 d f r)::F) Y):St w j B F Y:=
 λa b i c l g m=>k _ _ ⟨O,O⟩ a b i c l (g.IW (Sl c5 _ _ r) (NG.sub (g.ro h) hz)) m
def Sat.He(b:a8=(if j=e.toNat then A else A.map (·.add (e.toNat*c5.n)))/\D=j-e.toNat)(c:As.ro (Sl c5 A j M)∈F)(hz:Go.Proofs.YtjconpohbhlcmaaGreatDoor.sub M e b5=some r)(a:Sat F w):Sat (.ro (Sl c5 a8 D r)::F) w:=by obtain⟨rfl,rfl⟩:=b;exact a.IW (Sl c5 _ _ r) (NG.sub (a.ro c) hz)
def Rd.sub{s:Type}{E:JL s}{t e:Nat}{i b:TI}{A u:Option Addr}{n c v:Nat}{m o:List s}{x y:Option Operand}{l h:Int}{z:Operand}(G:u=(if c=l.toNat then A else A.map (·.add (l.toNat*E.n)))/\v=c-l.toNat)(hz:Go.Proofs.YtjconpohbhlcmaaGreatDoor.sub m l h=some o)(H:As.ro (Sl E A c m)∈F)(I:ev B z=some (.slice A n c))(f:n=m.length)(J:sE B 0 x=some l)(K:sE B (n:Int) y=some h)(p:xG T.tt t=some i)(d:i.desc=.slice e)(L:xG T.tt e=some b)(M:b.size=E.n):Rd P F B (.slice t z x y none) (.slice u o.length v):=λa w j D U V g C N=>by
 obtain⟨rfl,rfl⟩:=G;obtain⟨Q,R,S,_⟩:=Qs hz;have W:=Qu hz;have q:NG E A c m (KO (yU F) w):=N.ro H;have k:=q.1;subst f;have X:o.length=h.toNat-l.toNat:=by omega
 obtain⟨dd,Y,r⟩:=T.ok.desc p;have Z:=F6 (P:=P) true C J K Q R S k w;simp[execOp,Instr.sliceAt,Instr.slice,C.eval I,CY Y,TD.of_slice (r.trans d),Z,xC T.ok L,M,X]
section
def St.IL{c:Tr}(i:St w j B F (KP P J C Y d6))(k:St w j B F (KP P J C Y c)):St w j B F (KP P J C Y (.alt d6 c)):=
 λa b d e f g h=>⟨i a b d e f g h,k a b d e f g h⟩
def St.share{X Y:Act->World->Prop}(d:H->Env)(g:H->List As)(h:(∀b c e,iq (d e) b->(∀a,Sat c a->Sat (g e) a)->St w j b c Y)->St w j B F X)(i:∀e,St w j (d e) (g e) Y):St w j B F X:=
 h λ_ _ e f k=>St.weak f k (i e)
def St.splitB(c:Bool)(f:get B D=some (.bool c))(k:c=true->St w j ((D,.bool true)::B) F Y)(l:c=false->St w j ((D,.bool false)::B) F Y):St w j B F Y:=
 λa b g d e h i=>by
  cases c
  ·exact l O a b g d (At.cons (e D _ f) e) h i
  ·exact k O a b g d (At.cons (e D _ f) e) h i
def St.LX{d:Tg}(f:Fg J W=some y)(g:get B y=some (.bool t))(k:St w j B F (KP P J C Y (.st ⟨d,I,⟨m,f0,D,U,V,none⟩⟩ d6))):St w j B F (KP P J C Y (.st ⟨d,I,⟨m,f0,D,U,V,some (W,t)⟩⟩ d6)):=
 λa c i b e l n=>by
  have h:=k a c i b e l n;have o:Region.wanted ⟨m,f0,D,U,V,some (W,t)⟩ (yielded J a.tmps)=true:=by simp[Region.wanted,D6 e f g]
  have p:Region.wanted ⟨m,f0,D,U,V,none⟩ (yielded J a.tmps)=true:=wK O _;unfold KP mJ at h⊢;rw[AQ p]at h;rw[AQ o];exact h
theorem St.Vo{g:Tg}(i:Nat.blt W j=true)(l:Fg J y=some f)(m:get B f=some h)(q:Fh h t=true)(k:St w j ((W,undef)::B) F (KP P J C Y d6)):St w j B F (KP P J C Y (.st ⟨g,I,⟨some W,f0,D,U,V,some (y,t)⟩⟩ d6)):=
 λa c d b e n o=>by
  have p:¬Region.wanted ⟨some W,f0,D,U,V,some (y,t)⟩ (yielded J a.tmps)=true:=by simp only[Region.wanted,D6 e l m];cases h<;>simp_all[Fh]
  unfold KP mJ;rw[AP p];exact k _ c (by simp[Act.put,d]) b (e.put (d▸EU i)) n o
end
def St.JX(h:St w j B F (q.wp P (Exit.then (Q .normal) Q))):St w j B F (q.wp P Q):=
 λa b c d f g i=>wp_mono (h a b c d f g i) λe l m k=>by cases e<;>exact k
def Mc(g T:Nat)(cs:List Value):ah where
 gs:=[g]
 p m:=m g=some (.cells cs.toArray T)
 loc _ _ h hp:=(h g (by simp)).symm.trans hp
def St.TN{t:Nat}{l:Array (Nat×Operand)}(H:Nat.blt D j=true)(M:xG T.tt t=some N)(e:N.desc=.slice W)(v:xG T.tt W=some i)(hz:Nat.beq (zc i.zero).length i.size=true)(m:Nat.blt 0 i.size=true)(o:Gu B (λN=>some (N*i.size,i.size)) (ZE y (zc i.zero)) l.toList=some E)(c:Nat.ble (y*i.size) 16777216=true)(k:∀g,St w j ((D,.slice (some ⟨g,0,none⟩) y y)::B) (.res (Mc g W E)::F) (wpList P J Q L)):St w j B F (wpList P J Q (⟨some D,.buildSlice t y l,I,U,V,none⟩::L)):=
 λa b z p A R S=>GN O λK X=>by
  obtain⟨dd,Y,q⟩:=T.ok.desc M;have r:=zWU hz;have Z:0<i.size:=EU m;have n:=Ur A _ _ _ o
  have d:((Array.range (y*i.size)).map λN=>(if y*i.size=0 then#[]else i.zero.cells:Array Value)[N%(if y*i.size=0 then#[]else i.zero.cells:Array Value).size]!)=(ZE y (zc i.zero)).toArray:=by
   by_cases f:y*i.size=0
   ·have s:y=0:=by
     rcases YB.1 f with h|h
     ·exact h
     ·omega
    subst s;simp[ZE]
   ·simp only[f,EI]
    have:=zKw i.zero.cells y (by omega);rw[r]at this⊢;rw[this,<-aU]
  have C:(l.map λx=>(x.1,a.eval x.2)).toList=l.toList.map λx=>(x.1,a.eval x.2):=by simp
  unfold Oper.wp
  have hr:(execOp a.eval ⟨some D,.buildSlice t y l,I,U,V,none⟩).run P b=.ok (.value (.slice (some ⟨b.heap.size,0,none⟩) y y)) (b.alloc (.cells E.toArray W)):=by
   have u:¬(y*i.size>2^24):=by have:=EU c;omega
   simp only[execOp,Instr.buildSlice,EJ,CY Y,TD.of_slice (q.trans e),EO,xC T.ok v,AP u,FX];by_cases f:y*i.size=0
   ·simp only[f,FO]at d
    simp only[f,FO,EJ,FX,EO];rw[d,C,n];rfl
   ·simp only[f,EI]at d
    simp only[f,EI,EJ,tY T.ok v,FX,EO];rw[d,C,n];rfl
  rw[hr];exact X _ _ (k _ _ _ (by simp[Act.put,z]) p (A.put (z▸EU H)) (R.KA (Ext.alloc b _) (Mc b.heap.size W E) (by simp[Mc]) (λk G=>by simp[Mc]at G;subst G;simp) (jH b _)) (S.trans (Ext.alloc b _).toSame))
def St.Jk(z:Nat.blt D j=true)(A:ev B o=some (.slice (some ⟨f,0,none⟩) a6 a6))(C:xG T.tt W=some N)(c:N.desc=.slice y)(G:xG T.tt y=some i)(e:i.desc=.int .u8)(k:St w j ((D,.slice (some ⟨f,0,none⟩) a6 a6)::B) (.res (Box f y E)::F) (wpList P J Q L)):St w j B (.res (Mc f y E)::F) (wpList P J Q (⟨some D,.convert W W o,I,U,V,none⟩::L)):=
 λa b u g v l H=>GN O λK M=>by
  obtain⟨Y,m,n⟩:=T.ok.desc C;obtain⟨Z,p,r⟩:=T.ok.desc G;have x:b.heap[f]?=some (.cells E.toArray y):=(l.all _ (DZ ..)).2.1;have s:b.shape? f=some (y,E.length):=by simp[World.shape?,x]
  have R:(markStringish ⟨f,0,none⟩).run P b=.ok () (b.freeze ⟨f,E.length,none⟩ 1):=by unfold markStringish;simp[s]
  unfold Oper.wp
  have S:(execOp a.eval ⟨some D,.convert W W o,I,U,V,none⟩).run P b=.ok (.value (.slice (some ⟨f,0,none⟩) a6 a6)) (b.freeze ⟨f,E.length,none⟩ 1):=by simp[execOp,v.eval A,convert,CY m,TD.of_slice (n.trans c),CY p,TD.of_int (r.trans e),R]
  rw[S]
  have d:oM [f] b (b.freeze ⟨f,E.length,none⟩ 1):=by refine⟨⟨O,O,O,by simp[World.freeze]⟩,λk hk X=>?_⟩;simp only[World.freeze,Nat.one_ne_zero,EI,XA];rw[AP (λh=>X (by simp[h]))]
  refine M _ _ (k _ _ (by simp[Act.put,u]) g (v.put (u▸EU z)) (l.exchange d (by simp[Box]) (λq t=>?_) ?_) (H.trans d.toSame))
  ·simp only[Box,FI]at t
   subst t;exact⟨GV (l.lt (by simp[yU,As.gs,Mc])) d.size,.inl (by simp[Mc])⟩
  ·refine⟨.cells E.toArray y (E.length,E.length+1),?_,(E.length,E.length+1),O,λq t h=>by simp only at h;omega⟩
   show(b.freeze ⟨f,E.length,none⟩ 1).heap[f]?=_;simp[World.freeze,XA,x]
end
open Go Go.ChangeShapes Go.WideShapes Go.RowKit
def zTy(P:Program)(E:JL H)(f:H->Prop)(t:TypeId):Prop:=∀{a:Type} {enc:TypeId×Value->a} {w:World} {b:Nat} {g:Nat->Bool} {c:Bool} {d:Nat} {e:List Value} {x:DataW a×List MemPlace},
 DataW.trod enc P w b g c d t e=some x->∃y:H,E.rel (hp w) y e/\f y
abbrev Qz{α:Type}(P:Program)(ls:List (LC α))(φ:α->Prop)(t:TypeId):Prop:=zTy P (zW ls) φ t
variable{Z:Type}{c4:Enc H}{b0:JL Z}
section
def zZZ{t:TypeId}(a:P.underlying t=some (.int a9)):Qz P [.v (λx=>.int a9 x) (λ_=>O)] (Di a9) t:=λh=>by obtain⟨n,b,_,c⟩:=DataW.trod_int a h;subst b;exact⟨n,⟨O,trivial⟩,(Lit.wf_int_iff _ _).1 c⟩
def zXd{b:H->Prop}{t:TypeId}(h:Qz P d0 b t)(c:∀y a,rP y d0 a=c4.enc y):zTy P (DN c4) b t:=λd=>by obtain⟨y,e,f⟩:=h d;obtain⟨a,g,_⟩:=Jj e;exact⟨y,g.trans (c y a),f⟩
def zWx{E:JL Z}{φ:Z->Prop}{ad:Addr}{n:Nat}(g:0<E.n)(m:∀i,i<n->∃(y:Z) (k:List Value),E.rel (hp w) y k/\φ y/\∀j,j<E.n->w.cell? (ad.add (i*E.n+j))=k[j]?):∃l:List Z,l.length=n/\(∀x∈l,φ x)/\∀j x,l[j]?=some x->ad.spot=none/\∃k,E.rel (hp w) x k/\∀i u,k[i]?=some u->ji (hp w) ad.block (ad.off+j*E.n+i)=some u:=by
 induction n with
 |zero=>exact⟨[],O,(λx h=>by cases h),λj x h=>by simp at h⟩|succ n C=>
  obtain⟨l,p,r,D⟩:=C λi A=>m i (by omega)
  obtain⟨y,F,c,t,hy⟩:=m n (by omega);refine⟨l++[y],by simp[p],λx d=>?_,λj x f=>?_⟩
  ·rcases DW.1 d with d|d
   ·exact r x d
   ·simp only[FI]at d
    subst d;exact t
  by_cases G:j<n
  ·rw[NT (by omega)]at f
   exact D j x f
  ·have H:=(FT.1 f).1
   simp only[ER,RP,p]at H;obtain rfl:j=n:=by omega
   rw[<-p]at f;simp only[JM (FN _),KI,qp,LV]at f;subst f
   have a:ad.spot=none:=by
    cases v:ad.spot with
    |none=>rfl|some q=>
     obtain⟨K,c0,I,_,z⟩:=m 0 (by omega);have h:=z 0 g;have J:=E.len _ _ _ I;rw[CJ (by omega),show 0*E.n+0=0 by omega]at h;have e:ad.add 0=ad:=rfl;rw[e]at h;unfold World.cell? at h;split at h
     ·rw[v]at h;simp at h
     ·cases h
   refine⟨a,F,c,λi u B=>?_⟩;have A:i<E.n:=by rw[<-E.len _ _ _ c];exact(FT.1 B).1
   have h:=hy i A;rw[B]at h;rw[Ut];rw[<-h];congr 1;obtain⟨b,o,s⟩:=ad;simp only at a;subst a;unfold Addr.add;split
   ·rename_i hz;simp only[Addr.mk.injEq,true_and,and_true];omega
   ·simp only[Addr.mk.injEq,true_and,and_true];omega
def zWd{enc:TypeId×Value->H}{C:Nat->Bool}{f:Bool}{k:Z->Prop}{t e:TypeId}(F:P.underlying t=some (.slice e))(G:P.cellsOf e=b0.n)(g:0<b0.n)(hE:zTy P b0 k e):Qz P [.s b0 (λx=>x)] (Ji k) t:=λ{H enc w j C f D E x} I=>by
 rcases Deep.open_slice F I with⟨l,_⟩|⟨a,len,o,m,n,b,T,p,U,J,K,q,_,L⟩
 ·subst l
  exact⟨[],⟨⟨none,0,O,by simp,by simp[maxLen],λ_=>O,(λB h=>by cases h)⟩,trivial⟩,(λx h=>by cases h),by simp⟩
 ·subst p
  have M:len<=m:=by rw[q];split<;>omega
  obtain⟨N,l,r,Q⟩:=zWx (w:=w) (E:=b0) (φ:=k) (ad:=a) (n:=len) g (λi R=>by obtain⟨u,S,v⟩:=L i (by omega);obtain⟨y,hy,z⟩:=hE v;obtain⟨_,_,A⟩:=World.cells?_some S;refine⟨y,u,hy,z,λc V=>?_⟩;have:=A c (by omega);rw[Deep.add_add,G]at this;exact this)
  subst l;refine⟨N,⟨⟨some a,o,O,J,K,(λh=>by cases h),λB d=>?_⟩,trivial⟩,r,by omega⟩;injection d with d;subst d;exact Q
def zWF{enc:TypeId×Value->H}{g:Nat->Bool}{b:Bool}{c:List (LC Z)}{f:Z->Prop}{t:TypeId}{d:DataW H}{i:List MemPlace}(hE:Qz P c f t)(a:DataW.Trod enc P w j g b t h d i):∃(y:Z) (e:PO c),h.cells.toList=rP y c e/\f y/\∀r,As.ro r∈tK y c e->r.p (hp w):=by obtain⟨D,k⟩:=a;obtain⟨y,l,m⟩:=hE k;obtain⟨e,n,o⟩:=Jj l;exact⟨y,e,n,m,o⟩
end
def Jl(n:Nat)(a:List H):Option (List H):=if a.length=n then some a else none
def zZf(h:Jl j M=some r):r=M/\M.length=j:=by
 unfold Jl at h;split at h
 ·rename_i a;injection h with h;exact⟨h.symm,a⟩
 ·cases h
def uC(h:uF M e S=some r):r.length=M.length:=by
 unfold uF at h;split at h
 ·injection h with h
  subst h;simp
 ·cases h
variable{d4:Type}
def Rf(w:H->d4)(o:H⊕Z)(f:Z->Option d4):Option d4:=match o with|.inl r=>some (w r)|.inr s=>f s
variable{c8:Z}
def KF{f:Z->Option H}(h:xX (.inr c8) f=some S):f c8=some S:=h
def yCF{w:H->d4}{f:Z->Option d4}{r:d4}(h:Rf w (.inr c8) f=some r):f c8=some r:=h
def zXB(h:Jl j M=some r):j=M.length:=(zZf h).2.symm
variable{b7:Array Nat}{a7:FuncId}{R:List As}{c6:List Operand}{b2:Value->List As->Prop}
section
variable[T:GZ P]
def zJc(E:Enc H)(a:List H):(a.map E.enc).flatten.length=a.length*E.sz:=by
 induction a with
 |nil=>simp|cons x r b=>simp[E.len,FU,KU,b]
def zYD(E:Enc H)(b:List H):∀u∈(b.map E.enc).flatten,u.oneCell'=true:=by intro u c;obtain⟨r,d,a⟩:=UA.1 c;obtain⟨x,_,rfl⟩:=FM.1 d;exact E.one x u a
def zKD:As->Prop
 |.ro _=>False|.res r=>∀m z a,r.q m z->r.q m a
def Rh:List As->Prop
 |[]=>True|x::r=>zKD x/\Rh r
def Rh.mem:∀{F:List As},Rh F->∀x∈F,zKD x
 |[],_,x,a=>by cases a|y::r,h,x,a=>by
  cases a with
  |head=>exact h.1|tail _ a=>exact Rh.mem h.2 x a
def zNk(E:Enc H)(e:Nat)(A:Option Addr)(c:Nat)(a:List H):zKD (.res (zJ E e A c a)):=λ_ _ _ _=>MI
def CW.aBv{args:List Value}(h:CW P a7 args R b2)(A:jD R=true)(M:∀r,As.ro r∈R->r.p (hp w))(z:Sat F w)(B:∀v G,b2 v G->Rh G):Calls P a7 args.toArray w λe m=>∃v G,e=.returned v/\b2 v G/\Sat (G++F) m/\Same w m:=by
 have s:=dM A
 have I:yU (R++[.ro (yc w)])=[]:=eD λx c=>by
  rcases DW.1 c with c|c
  ·obtain⟨r,rfl⟩:=s x c;rfl
  ·simp at c;subst c;rfl
 have N:Sat (R++[.ro (yc w)]) w:=by
  refine⟨by rw[I];simp,λx c=>?_⟩;rw[I];rcases DW.1 c with c|c
  ·obtain⟨r,rfl⟩:=s x c
   refine r.mono _ _ ?_ (M r c);intro k o Q;simpa[KO,hp]using Q
  ·simp at c
   subst c;intro k _;simp[KO]
 refine(h w [.ro (yc w)] N).mono λe m ⟨J,G,S,K,C,L⟩=>⟨J,G,S,K,?_,L⟩
 have q:∀k,k<w.heap.size->KO (yU (G++[.ro (yc w)])) m k=w.heap[k]?:=λk d=>C.ro (r:=yc w) (by simp) k d
 have t:yU (G++[.ro (yc w)])=yU G:=by rw[pN];simp[yU,As.gs]
 rw[t]at q
 have f:∀k,k∈yU G->w.heap.size<=k:=λk d=>by
  rcases MG k w.heap.size with g|D
  ·have:=q k g
   rw[KO,AQ d,WS g]at this;cases this
  ·exact D
 have i:∀k,k<w.heap.size->m.heap[k]?=w.heap[k]?:=λk d=>by have:=q k d;rw[KO,AP (λE=>Nat.not_le.2 d (f k E))]at this;exact this
 have n:Ext w m:=⟨L,i⟩;have T:=z.ext n;refine⟨?_,λx c=>?_⟩
 ·rw[pN]
  refine LU.2 ⟨?_,z.nodup,λa U b j e=>?_⟩
  ·have:=C.nodup
   rw[t]at this;exact this
  ·have V:=f a U
   have W:=z.lt j;omega
 ·rcases DW.1 c with c|c
  ·have l:=C.all x (DW.2 (.inl c))
   have u:=(B J G K).mem x c;cases x with
   |ro r=>exact u.elim|res r=>exact⟨l.1,l.2.1,u _ _ _ l.2.2⟩
  ·have l:=z.all x c
   have y:Hp.le (KO (yU F) w) (KO (yU (G++F)) m):=by
    intro k o d;unfold KO at*;split at d
    ·cases d
    ·rename_i H
     have g:=(IX.1 d).1;rw[AP,i k g]
     ·exact d
     ·rw[pN,DW,MK]
      exact⟨λE=>Nat.not_le.2 g (f k E),H⟩
   cases x with
   |ro r=>exact r.mono _ _ y l|res r=>
    have j:∀k,k∈r.gs->hp w k=hp m k:=λk d=>(i k (l.1 k d)).symm
    exact⟨λk d=>GV (l.1 k d) n.size,r.loc _ _ j l.2.1,r.ai _ _ _ _ j y l.2.2⟩
def dY(G:List As)(F:List As):Prop:=∀w,Sat F w->∀r,As.ro r∈G->r.p (hp w)
def dY.nil:dY [] F:=λw h r a=>by cases a
def dY.own(c:As.res (zJ c4 j A D M)∈F)(h:dY G F):dY (.ro (FB c4 A D M)::G) F:=λw b d a=>by
 cases a with
 |head=>exact zJ.sl b c|tail _ a=>exact h w b d a
def St.dh{args:List Value}(h:CW P a7 args R b2)(n:Bf P a7)(p:Nat.blt D j=true)(q:ev B o=some (.func (.func a7) #[] #[]))(c:evs B c6=some args)(d:jD R=true)(r:dY R F)(f:∀v G,b2 v G->Rh G)(k:∀v G,b2 v G->St w j ((D,v)::B) (G++F) (wpList P J Q L)):St w j B F (wpList P J Q (⟨some D,.call {callee:=.value o,args:=c6.toArray,argTypes:=b7},I,U,V,none⟩::L)):=
 λa b l g i m s=>GN O λK t=>by
  unfold Oper.wp;rw[Uu n (i.eval q) (i.QS c)];show Calls P a7 args.toArray b _;refine(h.aBv d (r b m) m f).mono λe A ⟨v,G,u,x,y,z⟩=>?_
  subst u;exact t _ _ (k v G x _ _ (by simp[Act.put,l]) g (i.put (l▸EU p)) y (s.trans z))
end
def Af(A:Option Addr)(c a b:Nat):Option Addr:=if c=a then A else A.map (·.add (a*b))
def aE(b:Option Addr)(d:Nat)(A:Option Addr)(c a e:Nat):Prop:=d=c-a/\(a<c->b=A.map (·.add (a*e)))
def dO:aE (Af A j D I) (j-D) A j D I:=⟨O,λh=>by unfold Af;rw[AP (by omega)]⟩
def add_add(a:Addr)(i j:Nat):(a.add i).add j=a.add (i+j):=by
 unfold Addr.add;by_cases b:i=0
 ·subst b
  simp
 ·by_cases c:j=0
  ·subst c;simp
  ·simp[b,c,LG]
def zUG(h:aE A j a8 D I y):aE (Af A j W y) (j-W) a8 D (I+W) y:=by
 obtain⟨rfl,h⟩:=h;refine⟨by omega,λa=>?_⟩;have b:=h (by omega);unfold Af;rw[AP (by omega),b];cases a8 with
 |none=>rfl|some c=>
  simp only[DR];rw[add_add,FU]
def aF(len a n:Nat)(l h:Int):Option Nat:=if a+n<=len then if 0<=l/\l<=h/\h<=n then some (h.toNat-l.toNat)else none else none
def zWD(a:aF j D I e b5=some W):D+I<=j/\0<=e/\e<=b5/\b5<=I/\W=b5.toNat-e.toNat:=by
 unfold aF at a;split at a
 ·rename_i c
  split at a
  ·rename_i b
   injection a with a;exact⟨c,b.1,b.2.1,b.2.2,a.symm⟩
  ·cases a
 ·cases a
def rO(n:Nat)(a b:Int):Option Nat:=if 0<=a/\a<=b/\b<=n then some (b.toNat-a.toNat)else none
def UY(a:List H)(b n:Nat)(i:Int):Option H:=if 0<=i/\i<n then CO a ((b:Int)+i)else none
def zUI(h:rO j e b5=some D):0<=e/\e<=b5/\b5<=j/\D=b5.toNat-e.toNat:=by
 unfold rO at h;split at h
 ·rename_i a
  injection h with h;exact⟨a.1,a.2.1,a.2.2,h.symm⟩
 ·cases h
def Hf(h:UY M j D e=some S):CO M ((j:Int)+e)=some S:=by
 unfold UY at h;split at h
 ·exact h
 ·cases h
def zZS(h:UY M j D e=some S):0<=e/\e<D:=by
 unfold UY at h;split at h
 ·rename_i a;exact a
 ·cases h
def yu(o:Option H)(A:Value->List As->Prop)(B:H->Value->List As->Prop):Value->List As->Prop:=match o with|none=>A|some x=>B x
variable{g0:H->Value->List As->Prop}{d8:Option H}
def iY(a:d8=none)(hp:yu d8 b2 g0 h F):b2 h F:=by subst a;exact hp
def pJ(a:d8=some S)(hp:yu d8 b2 g0 h F):g0 S h F:=by subst a;exact hp
def wA(hp:b2 h F):yu none b2 g0 h F:=hp
def qD(hp:g0 S h F):yu (some S) b2 g0 h F:=hp
def eN(o:Option H)(a:Option Z)(f:H->Option Z):Option Z:=match o with|none=>a|some x=>f x
def oJ{a:Option Z}{f:H->Option Z}(h:d8=none)(k:eN d8 a f=some c8):a=some c8:=by subst h;exact k
def oB{a:Option Z}{f:H->Option Z}(h:d8=some S)(k:eN d8 a f=some c8):f S=some c8:=by subst h;exact k
variable{g8:Nat}{f9:Option Operand}
section
variable[T:GZ P]
def St.part[b:Walk P J X]{E:Enc H}{t:Nat}{r:Option Operand}(hz:rO M.length e b5=some b8)(x:Nat.blt D j=true)(z:ev B o=some (.slice A f a6))(C:As.res (zJ E y A a6 M)∈F)(d:f=M.length)(G:sE B 0 f9=some e)(s:sE B (f:Int) r=some b5)(n:xG T.tt t=some N)(c:N.desc=.slice W)(K:xG T.tt W=some i)(Q:i.size=E.sz)(k:St w j ((D,.slice (Af A a6 e.toNat E.sz) b8 (a6-e.toNat))::B) F (X L)):St w j B F (X (⟨some D,.slice t o f9 r none,I,U,V,none⟩::L)):=
 λa g R p m u S=>by
  obtain⟨Y,Z,h2,rfl⟩:=zUI hz;have h:fJ E.sz y A M.length a6 (M.map E.enc) (hp g):=u.res C
  have l:M.length<=a6:=by rcases h.2.2 with⟨_,_⟩|⟨_,_,_,_,_,_,_,s,_⟩<;>omega
  subst d;refine St.val (F:=F) x (v:=.slice (Af A a6 e.toNat E.sz) (b5.toNat-e.toNat) (a6-e.toNat)) (λa w' m _=>?_) k a g R p m u S;obtain⟨dd,hu,q⟩:=T.ok.desc n;have hb:=F6 (P:=P) true m G s Y Z h2 l w';simp[execOp,Instr.sliceAt,Instr.slice,m.eval z,CY hu,TD.of_slice (q.trans c),hb,xC T.ok K,Q,Af]
def St.Jm[b:Walk P J X]{E:Enc H}{t:Nat}{p:Option Operand}(hp:aE a8 b8 A a6 c9 E.sz)(hz:aF M.length c9 f e b5=some g8)(u:Nat.blt D j=true)(x:ev B o=some (.slice a8 f b8))(z:As.res (zJ E y A a6 M)∈F)(C:sE B 0 f9=some e)(q:sE B (f:Int) p=some b5)(l:xG T.tt t=some N)(c:N.desc=.slice W)(G:xG T.tt W=some i)(K:i.size=E.sz)(k:St w j ((D,.slice (Af a8 b8 e.toNat E.sz) g8 (b8-e.toNat))::B) F (X L)):St w j B F (X (⟨some D,.slice t o f9 p none,I,U,V,none⟩::L)):=
 λa g Q m h r R=>by
  obtain⟨S,Y,Z,h2,rfl⟩:=zWD hz;have d:fJ E.sz y A M.length a6 (M.map E.enc) (Go.Proofs.YtjconpohbhlcmaaGreatDoor.hp g):=r.res z
  have s:M.length<=a6:=by rcases d.2.2 with⟨_,_⟩|⟨_,_,_,_,_,_,_,q,_⟩<;>omega
  obtain⟨hcc,_⟩:=hp;refine St.val (F:=F) u (v:=.slice (Af a8 b8 e.toNat E.sz) (b5.toNat-e.toNat) (b8-e.toNat)) (λa w' h _=>?_) k a g Q m h r R;obtain⟨dd,hu,n⟩:=T.ok.desc l;have hb:=F6 (P:=P) true h C q Y Z h2 (show f<=b8 by omega) w';simp[execOp,Instr.sliceAt,Instr.slice,h.eval x,CY hu,TD.of_slice (n.trans c),hb,xC T.ok G,K,Af]
def St.di[b:Walk P J X]{E:Enc H}{t:Nat}(hp:aE a8 b8 A a6 c9 E.sz)(hy:UY M c9 f e=some S)(z:Nat.blt D j=true)(s:ev B o=some (.slice a8 f b8))(C:ev B x=some (.int a9 e))(G:As.res (zJ E y A a6 M)∈F)(K:xG T.tt t=some N)(c:N.desc=.slice W)(Q:xG T.tt W=some i)(R:i.size=E.sz)(k:∀g,A=some ⟨g,0,none⟩->St w j ((D,.pointer (some ⟨g,((c9:Int)+e).toNat*E.sz,none⟩))::B) F (X L)):St w j B F (X (⟨some D,.indexAddr t o x,I,U,V,none⟩::L)):=
 λa l u n p v Y=>by
  obtain⟨Z,h1⟩:=zZS hy;obtain⟨_,h3,_⟩:=rC (Hf hy);have d:fJ E.sz y A M.length a6 (M.map E.enc) (Go.Proofs.YtjconpohbhlcmaaGreatDoor.hp l):=v.res G;rcases d.2.2 with⟨h,_⟩|⟨g,cur,fr,hc,hA,_,_,hle,_⟩
  ·omega
  ·subst hA
   obtain⟨dd,hu,q⟩:=T.ok.desc K
   have r:a8=some ⟨g,c9*E.sz,none⟩:=by rw[hp.2 (by omega)];exact congrArg some (pL g _)
   rw[r]at s
   have m:(⟨g,c9*E.sz,none⟩:Addr).add (e.toNat*E.sz)=⟨g,((c9:Int)+e).toNat*E.sz,none⟩:=by
    have e1:((c9:Int)+e).toNat=c9+e.toNat:=by omega
    rw[e1,FU];unfold Addr.add;split
    ·rename_i hz;rw[hz];rfl
    ·rfl
   refine b.val _ _ _ _ _ (wK O _) (λw' he=>?_) (k g O _ l (by simp[Act.put,u]) n (p.put (u▸EU z)) v Y);simp[execOp,Instr.indexAt,p.eval s,p.eval C,asIntOf,CY hu,TD.of_slice (q.trans c),xC T.ok Q,R,Z,h1,m]
def zYl(hp:aE a8 D A j I c5.n)(h:NG c5 A j M d5)(hz:sub M (I:Int) ((I+W:Nat):Int)=some r)(d:W≠0):NG c5 a8 D r d5:=by
 have b:=NG.sub h hz;obtain⟨_,_,e,_⟩:=Qs hz;have a:I<j:=by have:=h.1;omega
 obtain⟨rfl,c⟩:=hp;rw[c a];rw[AP (by omega)]at b;exact b
def zNL(hp:aE a8 D A j I c4.sz)(hz:sub M (I:Int) ((I+W:Nat):Int)=some r)(c:As.res (zJ c4 y A j M)∈F)(d:Sat F w):NG (DN c4) a8 D r (Go.Proofs.YtjconpohbhlcmaaGreatDoor.hp w):=by
 have h:NG (DN c4) A j M (Go.Proofs.YtjconpohbhlcmaaGreatDoor.hp w):=zJ.sl d c;by_cases b:W=0
 ·subst b
  have:r=[]:=by have:=Qu hz;simpa using this
  subst this;refine⟨KJ _,?_,λ_=>O,λf _ a x e=>by simp at e⟩;have:=h.2.1;obtain⟨rfl,_⟩:=hp;omega
 ·exact zYl hp h hz b
def dY.part{E:Enc H}(hp:aE a8 I A D W E.sz)(hz:sub M (W:Int) ((W+y:Nat):Int)=some r)(c:As.res (zJ E j A D M)∈F)(h:dY G F):dY (.ro (FB E a8 I r)::G) F:=λw b d a=>by
 cases a with
 |head=>exact zNL hp hz c b|tail _ a=>exact h w b d a
def hM(hz:sub M (j:Int) ((j+D:Nat):Int)=some r):some (Value.slice A D I)=some (Value.slice A r.length I):=by
 have:=Qu hz;have e:D=r.length:=by omega
 rw[e]
def CW.Md{args:List Value}(a:CW P a7 args G (Val h))(d:jD G=true)(i:∀r,As.ro r∈G->r.p (Go.Proofs.YtjconpohbhlcmaaGreatDoor.hp w)):Calls P a7 args.toArray w λe f=>e=.returned h/\Ext w f:=by
 have c:=dM d
 have g:yU (G++[.ro (yc w)])=[]:=eD λx b=>by
  rcases DW.1 b with b|b
  ·obtain⟨r,rfl⟩:=c x b;rfl
  ·simp at b;subst b;rfl
 have j:Sat (G++[.ro (yc w)]) w:=by
  refine⟨by rw[g];simp,λx b=>?_⟩;rw[g];rcases DW.1 b with b|b
  ·obtain⟨r,rfl⟩:=c x b
   refine r.mono _ _ ?_ (i r b);intro k o l;simpa[KO,Go.Proofs.YtjconpohbhlcmaaGreatDoor.hp]using l
  ·simp at b
   subst b;intro k _;simp[KO]
 refine(a w [.ro (yc w)] j).mono λe f ⟨y,F,m,⟨n,q⟩,s,t⟩=>?_
 subst n;subst q;refine⟨m,t,λk u=>?_⟩;have v:=s.TK (r:=yc w) (by simp) k u;exact v
def St.ZH[W:Walk P J X]{args:List Value}(b:CW P a7 args G (Val h))(n:Bf P a7)(p:Nat.blt D j=true)(q:ev B o=some (.func (.func a7) #[] #[]))(e:evs B c6=some args)(f:jD G=true)(r:dY G F)(k:St w j ((D,h)::B) F (X L)):St w j B F (X (⟨some D,.call {callee:=.value o,args:=c6.toArray,argTypes:=b7},I,U,V,none⟩::L)):=
 λa c l g i m s=>W.call _ _ _ _ a7 args.toArray h (wK O _) (λt _=>Uu n (i.eval q) (i.QS e) t _ _)
  (λ_ d=>b.Md f (r _ (m.ext d)))
  (λ_ d=>k _ _ (by simp[Act.put,l]) g (i.put (l▸EU p)) (m.ext d) (s.trans d.toSame))
end
def aR(a:List H)(b n:Nat)(c:List H):Option (List H):=if b+n<=a.length then some (a.take b++c.take n++a.drop (b+min c.length n))else none
def zUl(h:aR M j D r=some b9):j+D<=M.length/\b9=M.take j++r.take (min r.length D)++M.drop (j+min r.length D):=by
 unfold aR at h;split at h
 ·rename_i b
  injection h with h;refine⟨b,?_⟩;rw[<-h];congr 2;rcases Nat.le_total r.length D with a|a
  ·rw[NP a,IU a,IU (FN _)]
  ·rw[Nat.min_eq_right a]
 ·cases h
def zMR(h:aR M j D r=some b9):b9.length=M.length:=by obtain⟨a,rfl⟩:=zUl h;simp only[ER,DV,EM];omega
def zLx(h:aR M j D r=some b9):some (Value.slice A M.length I)=some (Value.slice A b9.length I):=by rw[zMR h]
def NG.take{d:Type}{E:JL d}{A:Option Addr}{c:Nat}{e:List d}{m:Hp}(h:NG E A c e m)(k:Nat):NG E A c (e.take k) m:=by
 refine⟨?_,h.2.1,λb=>by rw[h.2.2.1 b];simp,λf b j x a=>h.2.2.2 f b j x ?_⟩
 ·have:=h.1;simp only[DV];omega
 ·rw[LQ]at a
  split at a
  ·exact a
  ·cases a
def NG.cells{P:Program}[GZ P](h:NG (DN c4) A j M (hp w)):ZN P c4.sz (.slice A M.length j) M.length (M.map c4.enc).flatten w:=by
 obtain⟨rows,c,d,f⟩:=h.rows
 have:rows=M.map c4.enc:=by apply LZ (by simp[c.1]);intro a g b;simp only[FQ]at b;have e:rows[a]=c4.enc M[a]:=c.2 a M[a] rows[a] (CJ _) (CJ _);simpa using e
 subst this;exact NG.src (E:=DN c4) d (by simp) h.2.2.1 f
def NG.first{n:Nat}{P:Program}[GZ P](h:NG (DN c4) A j M (hp w))(k:Nat)(b:k<=M.length):(Builtin.firstCells c4.sz k (.slice A n j)).run P w=.ok ((M.take k).map c4.enc).flatten.toArray w:=by
 have a:=(NG.cells (P:=P) (h.take k)).2.2.2 w O;have:(M.take k).length=k:=by simp;omega
 rw[this]at a;cases A<;>exact a
section
variable[T:GZ P]
def zMU{b:Type}(E:Enc b):∀(a:List b) (k:Nat),(a.map E.enc).flatten.take (k*E.sz)=((a.take k).map E.enc).flatten
 |[],k=>by simp|x::a,0=>by simp|x::a,k+1=>by have:=zMU E a k;have c:=E.len x;simp only[GY,OQ,vk];rw[FU,QG,KU,XW,c,OD,this,IU (by omega)]
def zMX{b:Type}(E:Enc b):∀(a:List b) (k:Nat),(a.map E.enc).flatten.drop (k*E.sz)=((a.drop k).map E.enc).flatten
 |[],k=>by simp|x::a,0=>by simp|x::a,k+1=>by have:=zMX E a k;have c:=E.len x;simp only[GY,OQ,vw];rw[FU,QG,KU,UC,c,OD,this,MN (by omega),JI]
def St.Ec{E:Enc H}{t m cs:Nat}{S:Option Addr}(hz:aR M a6 b8 r=some b9)(hd:Nat.blt D j=true)(hx:ev B o=some (.slice a8 b8 g8))(hy:ev B x=some (.slice S m cs))(hm:m=r.length)(hB:∀ad,A=some ad->0<b8->a6<c9->a8=some (ad.add (a6*E.sz)))(hD:Del F (.res (zJ E f A c9 M)) G)(hsrc:∀s,Sat F s->NG (DN E) S cs r (hp s))(hi:xG T.tt t=some N)(C:N.desc=.slice y)(hj:xG T.tt y=some i)(hn:i.size=E.sz)(k:St w j ((D,.int .i64 ((min r.length b8:Nat):Int))::B) (.res (zJ E f A c9 b9)::G) (wpList P J Q L)):St w j B F (wpList P J Q (⟨some D,.call {callee:=.builtin .copy,args:=#[o,x],argTypes:=#[t,W]},I,U,V,none⟩::L)):=
 λa s hs hdf R hf hw=>GN O λK hK=>by
  obtain⟨hle,rfl⟩:=zUl hz;subst hm;have Y:=hf.front hD;have hown:fJ E.sz f A M.length c9 (M.map E.enc) (hp s):=hf.UW hD;obtain⟨dd,hu,hdd⟩:=T.ok.desc hi;have Z:=hu.trans (congrArg some (TD.of_slice (hdd.trans C)));have hsz:=xC T.ok hj;have d:=(hsrc s hf).first (P:=P) (n:=r.length) (min r.length b8) (by omega);have hnm:Nat.min r.length b8=min r.length b8:=rfl;have hbk:∀g,A=some ⟨g,0,none⟩->0<c9->[g]=(zJ E f A c9 M).gs:=λg hA hc=>by subst hA;exact(zGH hc).symm
  have go:∃w',(execOp a.eval ⟨some D,.call {callee:=.builtin .copy,args:=#[o,x],argTypes:=#[t,W]},I,U,V,none⟩).run P s=.ok (.value (.int .i64 ((min r.length b8:Nat):Int))) w'/\Same s w'/\Sat (.res (zJ E f A c9 (M.take a6++r.take (min r.length b8)++M.drop (a6+min r.length b8)))::G) w':=by
   by_cases e:min r.length b8=0
   ·refine⟨s,?_,Same.refl s,?_⟩
    ·rw[e]at d
     cases a8 with
     |none=>simp[execOp,resolve,invoke,builtin,Builtin.copy_,R.eval hx,R.eval hy,CY Z,Builtin.lenOf,hsz,hn,hnm,e,d,goInt]|some b=>simp[execOp,resolve,invoke,builtin,Builtin.copy_,R.eval hx,R.eval hy,CY Z,Builtin.lenOf,hsz,hn,hnm,e,d,goInt,storeCells]
    ·rw[e]
     simpa using Y
   ·obtain⟨o1,o2,o3⟩:=hown
    rcases o3 with⟨h,_⟩|⟨g,u,fr,v,hA,hg,hcs,hnc,hc,htk,hfz⟩
    ·omega
    have hBs:=hB _ hA (by omega) (by omega);rw[pL]at hBs;subst hBs;have hbox:(Box g f u.toList).p (hp s):=⟨_,hg,fr,by simp,λN hi=>hfz N (by simpa using hi)⟩
    have c:((r.take (min r.length b8)).map E.enc).flatten.length=min r.length b8*E.sz:=by rw[zJc];simp
    have hroom:a6*E.sz+min r.length b8*E.sz<=M.length*E.sz:=by rw[<-FU];exact MR _ (by omega)
    have aBx:M.length*E.sz<=c9*E.sz:=MR _ hnc;obtain⟨w',hrr,hwr,hb⟩:=dU (P:=P) ((r.take (min r.length b8)).map E.enc).flatten u.toList (a6*E.sz) 0 s hbox (by simp only[PU,hcs,c];omega) (zYD E _);have hbk:=hbk g hA v;have Vq:=hrr;rw[List.map_take]at Vq;refine⟨w',?_,hwr.toSame,Y.exchange (hbk▸hwr) (nD _ _) (λi hj=>?_) ?_⟩
    ·simp[execOp,resolve,invoke,builtin,Builtin.copy_,R.eval hx,R.eval hy,CY Z,Builtin.lenOf,hsz,hn,hnm,d,goInt,Vq]
    ·exact⟨GV (Y.lt (by simp only[yU,As.gs,DW];exact .inl hj)) hwr.size,.inl hj⟩
    ·have hlen:(M.take a6++r.take (min r.length b8)++M.drop (a6+min r.length b8)).length=M.length:=by simp only[ER,DV,EM];omega
     obtain⟨l,ho,fr',rfl,hfz'⟩:=hb;refine⟨by simp,Qv E.len E.one _,.inr ⟨g,_,fr',v,hA,ho,?_,by omega,hc,?_,λN hi=>hfz' N (by simpa using hi)⟩⟩
     ·simp only[NM,ER,DV,EM,PU,hcs,c]
      omega
     ·rw[hlen]
      have hcur:u.toList.take (M.length*E.sz)=(M.map E.enc).flatten:=htk;have hcl:u.toList.length=c9*E.sz:=by simp[hcs]
      simp only[MC,XH,LH];rw[<-zMU E M a6,<-zMX E M,<-hcur,c,FU];generalize hvs:((r.take (min r.length b8)).map E.enc).flatten=vs at c⊢;generalize hP:a6*E.sz=p at*;generalize hKK:min r.length b8*E.sz=q at*;generalize hX:M.length*E.sz=X at*;apply FW;intro z;simp only[LQ,NU,ER,DV,EM,MW,hcl,c];have e1:min p (c9*E.sz)=p:=by omega
      have e2:min p (min X (c9*E.sz))=p:=by omega
      rw[e1,e2];by_cases c1:z<p
      ·simp only[c1,show z<X by omega,show z<p+q by omega,FO]
      ·by_cases c2:z<p+q
       ·simp only[c1,c2,show z<X by omega,FO,EI]
       ·by_cases c3:z<X
        ·simp only[c1,c2,c3,FO,EI]
         rw[AQ (by omega)]
        ·simp only[c1,c2,c3,EI]
         rw[AP (by omega)]
  obtain⟨w',hrun,hsame,OX⟩:=go;unfold Oper.wp;rw[hrun];exact hK _ _ (k _ _ (by simp[Act.put,hs]) hdf (R.put (hs▸EU hd)) OX (hw.trans hsame))
def zTq(c:∀a,A=some a->a.add 0=a):∀a,A=some a->0<j->0<D->A=some (a.add (0*I)):=λa b _ _=>by rw[SL,c a b];exact b
def zVs(hp:aE a8 I A D W y):∀a,A=some a->0<j->W<D->a8=some (a.add (W*y)):=λa c _ b=>by rw[hp.2 b,c];rfl
def St.Vr{E:Enc H}{t:Nat}(hz:aR M 0 M.length r=some b9)(e:Nat.blt D j=true)(g:ev B o=some (.slice A a6 b8))(hy:ev B x=some (.slice a8 c9 g8))(h:c9=r.length)(d:a6=M.length)(l:Del F (.res (zJ E f A b8 M)) G)(c:∀a,Sat F a->NG (DN E) a8 g8 r (hp a))(m:xG T.tt t=some N)(b:N.desc=.slice y)(n:xG T.tt y=some i)(p:i.size=E.sz)(k:St w j ((D,.int .i64 ((min r.length M.length:Nat):Int))::B) (.res (zJ E f A b8 b9)::G) (wpList P J Q L)):St w j B F (wpList P J Q (⟨some D,.call {callee:=.builtin .copy,args:=#[o,x],argTypes:=#[t,W]},I,U,V,none⟩::L)):=by subst d;refine St.Ec hz e g hy h (zTq λq s=>?_) l c m b n p k;unfold Addr.add;simp
def St.Vs{E:Enc H}{t m d:Nat}{S:Option Addr}(hp:aE a8 g8 A c9 a6 E.sz)(hz:aR M a6 b8 r=some b9)(e:Nat.blt D j=true)(g:ev B o=some (.slice a8 b8 g8))(hy:ev B x=some (.slice S m d))(h:m=r.length)(l:Del F (.res (zJ E f A c9 M)) G)(c:∀a,Sat F a->NG (DN E) S d r (Go.Proofs.YtjconpohbhlcmaaGreatDoor.hp a))(n:xG T.tt t=some N)(b:N.desc=.slice y)(p:xG T.tt y=some i)(q:i.size=E.sz)(k:St w j ((D,.int .i64 ((min r.length b8:Nat):Int))::B) (.res (zJ E f A c9 b9)::G) (wpList P J Q L)):St w j B F (wpList P J Q (⟨some D,.call {callee:=.builtin .copy,args:=#[o,x],argTypes:=#[t,W]},I,U,V,none⟩::L)):=
 St.Ec hz e g hy h (zVs hp) l c n b p q k
def zUD(a:As.ro (FB c4 A j M)∈F):∀w,Sat F w->NG (DN c4) A j M (hp w):=λw h=>h.TK a
def zWz{E:Enc H}(hp:aE a8 D A j W E.sz)(hz:sub M (W:Int) ((W+y:Nat):Int)=some r)(a:As.res (zJ E I A j M)∈F):∀w,Sat F w->NG (DN E) a8 D r (Go.Proofs.YtjconpohbhlcmaaGreatDoor.hp w):=λw h=>zNL hp hz a h
def yBq(hz:sub M (j:Int) ((j+D:Nat):Int)=some r):D=r.length:=by have:=Qu hz;omega
end
def Ri:Option Nat->Value
 |none=>.nilFunc|some f=>.func (.func f) #[] #[]
def Bl(a:List (Int×Option Nat))(q:Int):Value:=Ri ((tO (yW .i64).eq a q).getD none)
def Jo(a:List (Int×Option Nat))(q:Int):Bool:=a.any λe=>q==e.1
def H9{u:Value}(a:h=u):some h=some u:=by rw[a]
variable{b3:List (Int×Option Nat)}
def I4(h:(e==b5)=true):Bl ((b5,some j)::b3) e=.func (.func j) #[] #[]:=by simp[Bl,tO,yW,h,Ri]
def zRz(h:(e==b5)=false):Bl ((b5,some j)::b3) e=Bl b3 e:=by simp[Bl,tO,yW,h]
def zRu{j:Int}(a:(e==b5)=false)(h:(e==j)=true):Bl ((b5,some D)::(j,some I)::b3) e=.func (.func I) #[] #[]:=by rw[zRz a,I4 h]
def Rj(g:Nat)(tab:List (Int×Option Nat)):Ro where
 p m:=∃tab',(∀q,tO (yW .i64).eq tab' q=tO (yW .i64).eq tab q)/\(iU (yW .i64) Ri g tab').p m
 mono _ _ h:=λ⟨tab',hq,es,cl,ho,hb⟩=>⟨tab',hq,es,cl,h _ _ ho,hb⟩
def WR(g:Nat)(tab:List (Int×Option Nat)):Ro where
 p m:=∃gm,ji m g 0=some (.map (some gm))/\(Rj gm tab).p m
 mono m m' h:=λ⟨gm,h1,h2⟩=>⟨gm,zGu h h1,(Rj gm tab).mono _ _ h h2⟩
def yAQ(d:Option Addr)(A:Option Addr)(n c a e:Nat):Prop:=∀b,A=some b->0<n->a<c->d=some (b.add (a*e))
def Me(b:Nat)(z:H)(l c:Int):Option (List H):=if 0<=l/\l<=c/\c*b<=281474976710656/\c<=9223372036854775807 then some (List.replicate l.toNat z)else none
def Vt{a:Type}:(ls:List (LC a))->PO ls
 |[]=>()|.v _ _::r=>Vt r|.s _ _::r=>((none,0),Vt r)
def Rk{a:Type}(z:a):List (LC a)->Bool
 |[]=>true|.v _ _::r=>Rk z r|.s _ f::r=>(f z).isEmpty&&Rk z r
def zOg{a:Type}{z:a}{m:Hp}:∀{ls:List (LC a)},Rk z ls=true->Fz m z ls (rP z ls (Vt ls))
 |[],_=>trivial|.v _ _::ls,h=>⟨O,zOg (ls:=ls) h⟩|.s E f::ls,h=>by
  have b:(f z).isEmpty=true/\Rk z ls=true:=by simpa[Rk]using h
  have c:f z=[]:=List.isEmpty_iff.1 b.1;exact⟨⟨none,0,O,by rw[c];exact KJ _,KJ _,λ_=>c,λd h=>by cases h⟩,zOg (ls:=ls) b.2⟩
variable{f2 f8:Array TypeId}{i4:Operand}
section
variable[T:GZ P]
def St.DU(l:As.ro (WR D b3)∈F)(k:∀c,St w j B (.ro (gN D 0 [.map (some c)])::.ro (Rj c b3)::F) Y):St w j B F Y:=
 λa b m f n h o=>by
  obtain⟨c,p,q⟩:=h.ro l;have g:=h.IW (Rj c b3) q;refine k c a b m f n (g.IW (gN D 0 [.map (some c)]) ?_) o;intro i u d;have e:yU (.ro (Rj c b3)::F)=yU F:=by simp[yU,As.gs]
  rw[e]
  match i,d with
  |0,d=>simp at d;subst d;exact p|i+1,d=>simp at d
def St.ZI[b:Walk P J X]{t:Nat}(s:Nat.blt D j=true)(u:ev B o=some (.map (some f)))(hy:ev B x=some (.int .i64 e))(z:As.ro (Rj f b3)∈F)(A:xG T.tt t=some N)(d:N.desc=.map W y)(C:xG T.tt W=some i)(g:i.desc=.int .i64)(E:xG T.tt y=some e8)(hz:e8.zero=.nilFunc)(c:St w j ((D,Bl b3 e)::B) F (X L)):St w j B F (X (⟨some D,.lookup t o x false,I,U,V,none⟩::L)):=
 λa h p k l q G=>by refine b.val _ _ _ _ _ (wK O _) (λQ H=>?_) (c _ h (by simp[Act.put,p]) k (l.put (p▸EU s)) q G);obtain⟨r,M,m⟩:=(q.ext H).TK z;have:=zEq (P:=P) (K:=yW .i64) (vv:=Ri) (none:Option Nat) false A d C g E hz e m;rw[M]at this;have n:a.eval x=(yW .i64).v e:=l.eval hy;simp[execOp,l.eval u,n,this,Va,Bl]
def zPo{t:Nat}{a:Bool}(b:(underlying t).run P w=.ok (.func f8 f2 a) w)(f:Nat):(Op.equal t (.func (.func f) #[] #[]) .nilFunc).run P w=.ok false w:=by show(Op.equalIn (9999+1) t (.func (.func f) #[] #[]) .nilFunc).run P w=.ok false w;unfold Op.equalIn;simp[b]
def zOB{t:Nat}{a:Bool}(b:(underlying t).run P w=.ok (.func f8 f2 a) w):(Op.equal t .nilFunc .nilFunc).run P w=.ok true w:=by show(Op.equalIn (9999+1) t .nilFunc .nilFunc).run P w=.ok true w;unfold Op.equalIn;simp[b]
def St.Na[b:Walk P J X]{t:Nat}{o:BinOp}{r:Bool}(A:Nat.blt D j=true)(u:ev B x=some (Bl b3 e))(hy:ev B i4=some .nilFunc)(p:(match P.underlying t with|some (.func _ _ _)=>true|_=>false)=true)(d:(b3.all λc=>c.2.isSome)=true)(s:(o=.eql/\r=!(Jo b3 e))\/(o=.neq/\r=Jo b3 e))(k:St w j ((D,.bool r)::B) F (X L)):St w j B F (X (⟨some D,.binOp o t x i4 W,I,U,V,none⟩::L)):=
 St.val A (λa g l _=>by
  cases i:P.underlying t with
  |none=>rw[i]at p;simp at p|some C=>
  cases C with
  |func ps rs G=>
   have h:∀(b3:List (Int×Option Nat)),(b3.all λc=>c.2.isSome)=true->(Jo b3 e=true/\∃f,Bl b3 e=.func (.func f) #[] #[])\/(Jo b3 e=false/\Bl b3 e=.nilFunc):=by
    intro b3;induction b3 with
    |nil=>intro _;exact .inr ⟨O,O⟩
    |cons c b3 E=>
     intro l;obtain⟨v,ev⟩:=c;simp only[YT,GX]at l;cases ev with
     |none=>simp at l|some f=>
      cases q:(e==v)
      ·rw[zRz q]
       have:Jo ((v,some f)::b3) e=Jo b3 e:=by simp[Jo,q]
       rw[this];exact E l.2
      ·exact .inl ⟨by simp[Jo,q],f,I4 q⟩
   have y:(eqGuard o t x i4 (Bl b3 e) .nilFunc).run P g=.ok () g:=by unfold eqGuard;rcases h b3 d with⟨_,f,m⟩|⟨_,m⟩<;>rw[m]<;>rcases s with⟨rfl,_⟩|⟨rfl,_⟩<;>simp
   have n:=CY (w:=g) i
   rcases h b3 d with⟨z,f,m⟩|⟨z,m⟩<;>rw[z]at s<;>rcases s with⟨rfl,rfl⟩|⟨rfl,rfl⟩<;>
    (rw[m]at y u;simp[execOp,l.eval u,l.eval hy,y,binOp,zPo n,zOB n])
  |_=>rw[i]at p;simp at p) k
def St.aBz[b:Walk P J X]{E:JL H}{t:Nat}{Y:IntKind}(hd:Nat.blt D j=true)(hx:ev B i4=some (.slice A y f))(hm:As.ro (Sl E A f M)∈F)(G:y=M.length)(c:sE B 0 f9=some e)(hh:ev B o=some (.int a9 b5))(Z:ev B x=some (.int Y b5))(hi':xG T.tt t=some N)(u:N.desc=.slice W)(hj:xG T.tt W=some i)(hn:i.size=E.n)(hz:Go.Proofs.YtjconpohbhlcmaaGreatDoor.sub M e b5=some r)(k:∀A' c',St w j ((D,.slice A' r.length c')::B) (.ro (Sl E A' c' r)::F) (X L)):St w j B F (X (⟨some D,.slice t i4 f9 (some o) (some x),I,U,V,none⟩::L)):=
 λa g hs z K Q hw=>by
  obtain⟨h0,h1,h2,_⟩:=Qs hz;have hyl:=Qu hz;have R:NG E A f M (KO (yU F) g):=Q.ro hm;have hcap:=R.1;subst G;have Dq:r.length=b5.toNat-e.toNat:=by omega
  have hb:∀C,(Instr.sliceBounds true M.length f (f9.map a.eval) (some (.int a9 b5)) (some (.int Y b5))).run P C=.ok (e.toNat,b5.toNat,b5.toNat) C:=λC=>by
   have g1:(0<=b5/\b5<=(f:Int)):=⟨by omega,by omega⟩;have l:max b5 0=b5:=by omega
   cases f9 with
   |none=>
    simp only[sE]at c;injection c with c;subst c;simp[Instr.sliceBounds,Instr.sliceBound,asIntOf,g1,l]
   |some p=>
    simp only[sE]at c;split at c
    ·rename_i kk m d
     injection c with c;subst c;simp[Instr.sliceBounds,Instr.sliceBound,asIntOf,K.eval d,g1,l,h0,h1]
    ·cases c
  refine St.val (F:=F) hd (v:=.slice (if b5.toNat=e.toNat then A else A.map (·.add (e.toNat*E.n))) r.length (b5.toNat-e.toNat)) (λa' C h _=>?_)
   (λa g hs z K Q hw=>k _ _ a g hs z K (Q.IW (Sl E _ _ r) ?_) hw) a g hs z K Q hw
  ·obtain⟨dd,hu,hdd⟩:=T.ok.desc hi'
   have hb':(Instr.sliceBounds true M.length f (f9.map a'.eval) (some (.int a9 b5)) (some (.int Y b5))).run P C=.ok (e.toNat,b5.toNat,b5.toNat) C:=by
    have:f9.map a'.eval=f9.map a.eval:=by
     cases f9 with
     |none=>rfl|some p=>
      simp only[sE]at c;split at c
      ·rename_i kk m d
       simp[h.eval d,K.eval d]
      ·cases c
    rw[this];exact hb C
   simp[execOp,Instr.sliceAt,Instr.slice,h.eval hx,h.eval hh,h.eval Z,CY hu,TD.of_slice (hdd.trans u),hb',xC T.ok hj,hn,Dq]
  ·have hs1:=NG.sub (Q.ro hm) hz
   obtain⟨s1,s2,s3,s4⟩:=hs1;have hcm:f<=maxLen:=R.2.1;refine⟨by omega,by omega,λS=>?_,λad S q s hy=>?_⟩
   ·by_cases he:b5.toNat=e.toNat
    ·exact KQ (by omega)
    ·rw[AP he]at S
     refine s3 ?_;rw[AP (by omega)];exact S
   ·have hlt:=(FT.1 hy).1
    rw[AP (by omega)]at S;exact s4 ad (by rw[AP (by omega)];exact S) q s hy
def St.Vu[b:Walk P J X]{E:Enc H}{t:Nat}{s:IntKind}(hz:rO M.length e b5=some b8)(hd:Nat.blt D j=true)(hx:ev B i4=some (.slice A f a6))(hm:As.res (zJ E y A a6 M)∈F)(q:f=M.length)(c:sE B 0 f9=some e)(R:ev B o=some (.int a9 b5))(u:ev B x=some (.int s b5))(z:xG T.tt t=some N)(m:N.desc=.slice W)(hj:xG T.tt W=some i)(hn:i.size=E.sz)(k:∀S cc,yAQ S A b8 a6 e.toNat E.sz->St w j ((D,.slice S b8 cc)::B) F (X L)):St w j B F (X (⟨some D,.slice t i4 f9 (some o) (some x),I,U,V,none⟩::L)):=
 λa g hs C G Y hw=>by
  obtain⟨h0,h1,h2,rfl⟩:=zUI hz;have r:fJ E.sz y A M.length a6 (M.map E.enc) (hp g):=Y.res hm
  have Z:M.length<=a6:=by rcases r.2.2 with⟨_,_⟩|⟨_,_,_,_,_,_,_,R,_⟩<;>omega
  subst q
  have hb:∀n,(Instr.sliceBounds true M.length a6 (f9.map a.eval) (some (.int a9 b5)) (some (.int s b5))).run P n=.ok (e.toNat,b5.toNat,b5.toNat) n:=λn=>by
   have g1:(0<=b5/\b5<=(a6:Int)):=⟨by omega,by omega⟩;have l:max b5 0=b5:=by omega
   cases f9 with
   |none=>
    simp only[sE]at c;injection c with c;subst c;simp[Instr.sliceBounds,Instr.sliceBound,asIntOf,g1,l]
   |some p=>
    simp only[sE]at c;split at c
    ·rename_i kk b8 d
     injection c with c;subst c;simp[Instr.sliceBounds,Instr.sliceBound,asIntOf,G.eval d,g1,l,h0,h1]
    ·cases c
  refine St.val (F:=F) hd (v:=.slice (if b5.toNat=e.toNat then A else A.map (·.add (e.toNat*E.sz))) (b5.toNat-e.toNat) (b5.toNat-e.toNat)) (λa' n h _=>?_)
   (k _ _ (λad hA hpos _=>by rw[AP (by omega),hA];rfl)) a g hs C G Y hw
  obtain⟨dd,hu,K⟩:=T.ok.desc z
  have Q:(Instr.sliceBounds true M.length a6 (f9.map a'.eval) (some (.int a9 b5)) (some (.int s b5))).run P n=.ok (e.toNat,b5.toNat,b5.toNat) n:=by
   have:f9.map a'.eval=f9.map a.eval:=by
    cases f9 with
    |none=>rfl|some p=>
     simp only[sE]at c;split at c
     ·rename_i kk b8 d
      simp[h.eval d,G.eval d]
     ·cases c
   rw[this];exact hb n
  simp[execOp,Instr.sliceAt,Instr.slice,h.eval hx,h.eval R,h.eval u,CY hu,TD.of_slice (K.trans m),Q,xC T.ok hj,hn]
def zSF(e:Bf P a7){a:Act}{d:List Value}(f:a.eval o=.func (.func a7) d.toArray #[])(b:c6.map a.eval=E)(w:World)(c:Option Nat)(g:Option (Nat×Bool)):(execOp a.eval ⟨c,.call {callee:=.value o,args:=c6.toArray,argTypes:=b7},j,U,V,g⟩).run P w=.ok (.enter a7 (d++E).toArray) w:=by
 obtain⟨fn,h,i,k⟩:=GZ.he _ e;subst b
 have l:∀args:Array Value,(callFunc a7 args).run P w=.ok (.enter a7 args) w:=λargs=>by unfold callFunc;rw[EJ,UU];simp only[EO,h,i,k,MV,EI,FX]
 simp[execOp,resolve,f,Deferred.ofValue,invoke,l]
def St.Jp{R:List As}{args us:List Value}{G:List As}(h:CW P a7 (us++args) G b2)(l:Bf P a7)(m:Nat.blt D j=true)(n:ev B o=some (.func (.func a7) us.toArray #[]))(d:evs B c6=some args)(p:∀b,Sat F b->Sat (G++R) b)(k:∀v c,b2 v c->St w j ((D,v)::B) (c++R) (wpList P J Q L)):St w j B F (wpList P J Q (⟨some D,.call {callee:=.value o,args:=c6.toArray,argTypes:=b7},I,U,V,none⟩::L)):=
 λa b i f g q r=>GN O λK s=>by
  unfold Oper.wp;rw[zSF l (g.eval n) (g.QS d)];show Calls P a7 (us++args).toArray b _;refine(h b R (p b q)).mono λe z ⟨v,c,t,u,x,y⟩=>?_
  subst t;exact s _ _ (k v c u _ _ (by simp[Act.put,i]) f (g.put (i▸EU m)) x (r.trans y))
def St.Me{s:Type}{ls:List (LC s)}{t e:Nat}{i a:TI}{x y:Operand}{l c:Int}{b:Nat}(z:s){u:List s}(d:Go.Proofs.YtjconpohbhlcmaaGreatDoor.Me b z l c=some u)(G:Nat.blt D j=true)(v:ev B x=some (.int .i64 l))(hy:ev B y=some (.int .i64 c))(H:xG T.tt t=some i)(h:i.desc=.slice e)(K:xG T.tt e=some a)(m:a.size=ls.length)(A:a.bytes=b)(hz:zc a.zero=rP z ls (Vt ls))(M:Rk z ls=true)(o:Nat.blt 0 a.size=true)(k:∀g,St w j ((D,.slice (some ⟨g,0,none⟩) u.length c.toNat)::B) (.res (yQ (zW ls) e (some ⟨g,0,none⟩) c.toNat u)::F) (wpList P J Q L)):St w j B F (wpList P J Q (⟨some D,.makeSlice t x y,I,U,V,none⟩::L)):=by
 unfold Go.Proofs.YtjconpohbhlcmaaGreatDoor.Me at d;split at d
 ·rename_i p
  injection d with d;subst d;subst A;refine St.makeSlice G v hy H h K (by rw[hz,cJ,m];simp) o (by rw[hz,List.all_eq_true];exact H7 z ls _) p.1 p.2.1 p.2.2.1 p.2.2.2 λg=>?_
  refine St.BF (F':=.res (yQ (zW ls) e (some ⟨g,0,none⟩) c.toNat (List.replicate l.toNat z))::F) (λf C=>?_) (by have:=k g;rwa [PX]at this);rw[m,hz]at C
  exact Sat.yj (E:=zW ls) (rows:=List.replicate l.toNat (rP z ls (Vt ls))) (n:=l.toNat) C (PX ..).symm ⟨by simp,λq x r v N=>by obtain⟨_,rfl⟩:=FT.1 v;obtain⟨_,rfl⟩:=FT.1 N;rw[qw,qw];exact zOg M⟩
 ·cases d
end
open Go Go.WideElems
def Hg(P:Program):List (Int×Option Nat)->List (Lit×DataW (List UInt8))->Prop
 |[],[]=>True|(i,some f)::r,(.int .i64 j,.held (b::s))::a=>i=j/\((List.range P.funcs.size).filter λf=>(P.funcs[f]?).any (·.name.toUTF8.data.toList==b::s))=[f]/\Hg P r a|_,_=>False
def Hg.mem{P:Program}:∀{a:List (Int×Option Nat)} {L:List (Lit×DataW (List UInt8))},Hg P a L->∀x∈L,∃i f b s,x=(.int .i64 i,.held (b::s))/\(i,some f)∈a/\((List.range P.funcs.size).filter λf=>(P.funcs[f]?).any (·.name.toUTF8.data.toList==b::s))=[f]
 |[],[],_,x,c=>by cases c|(i,some f)::r,(.int .i64 j,.held (b::s))::q,h,x,c=>by
  obtain⟨rfl,d,e⟩:=h;rcases EC.1 c with rfl|c
  ·exact⟨i,f,b,s,O,DZ ..,d⟩
  ·obtain⟨g,k,l,m,n,o,p⟩:=Hg.mem e x c
   exact⟨g,k,l,m,n,EX _ o,p⟩
def Hg.key{P:Program}:∀{a:List (Int×Option Nat)} {L:List (Lit×DataW (List UInt8))},Hg P a L->∀y∈a,∃x∈L,x.1=.int .i64 y.1
 |[],[],_,x,c=>by cases c|(i,some f)::r,(.int .i64 j,.held (b::s))::k,h,y,hy=>by
  obtain⟨rfl,l,d⟩:=h;rcases EC.1 hy with rfl|hy
  ·exact⟨_,DZ ..,O⟩
  ·obtain⟨x,e,g⟩:=Hg.key d y hy
   exact⟨x,EX _ e,g⟩
def zYj{l:List (String×DataW Unit)}{d:List (Lit×DataW Unit)}{t:Nat}{va:Bool}(hL:laidMetH P l w)(A:(U,DataW.iface "func table" (.map d))∈l)(W:P.globalNamed U=some j)(ht:(P.globals[j]?).map (·.type)=some t)(hu:P.underlying t=some (.map D I))(X:P.underlying D=some (.int .i64))(Y:P.underlying I=some (.func f8 f2 va))(Z:Hg P b3 (DataW.funcsOutEntries d)):∃b v g,w.cell? ⟨j,0,none⟩=some (.map (some b))/\w.heap[b]?=some (.map v g)/\(∀x∈v.toList,∃i f,x.key=.int .i64 i/\x.val=.func (.func f) #[] #[]/\(i,some f)∈b3)/\(∀y∈b3,∃x∈v.toList,x.key=.int .i64 y.1):=by
 obtain⟨g',t',cs,B,p,L,M,hv,hd⟩:=hL.funcs A;obtain rfl:=YD (W.symm.trans L);obtain rfl:=YD (ht.symm.trans M)
 have N:DataW.trod (funcToken P) P w 0 (λ_=>true) true B t cs.toList=some (.map (DataW.funcsOutEntries d),p):=by rw[hd];rfl
 rcases open_map hu N with⟨_,J⟩|⟨b,v,g,n,rfl,Q,hb,_,F,J⟩
 ·cases J
 ·simp only[KD,DataW.map.injEq]at J
  have r:w.cell? ⟨j,0,none⟩=some (.map (some b)):=by have:=World.var?_cell W hv 0;rw[Array.eq_one_of_toList Q]at this;simpa using this
  have h:(DataW.funcsOutEntries d).Perm (v.toList.map (rg P D (elemAt (funcToken P) P w 0 (λ_=>true) true n I))):=by rw[J.1];exact Go.WideShapes.sorted_perm _
  refine⟨b,v,g,r,hb,λx C=>?_,λy hy=>?_⟩
  ·obtain⟨y,hy⟩:=F.reads x C
   have K:=h.mem_iff.2 (OO C);rw[rg_of hy]at K;obtain⟨i,f,c,s,rfl,h2,h3⟩:=Z.mem y K;have a:=rd_key hy;obtain⟨z,k,E⟩:=rd_val hy;refine⟨i,f,?_,?_,h2⟩
   ·simp only[keyOf,X,mapKey]at a
    split at a
    ·rename_i e _;cases e
    ·rename_i q q' m e R
     injection e with e;injection e with e;subst e;split at a
     ·rename_i S
      injection a with a;injection a with _ a;rw[R,S.1,a]
     ·cases a
    ·rename_i e _;cases e
    ·cases a
   ·unfold elemAt at k
    split at k
    ·rename_i T
     obtain⟨z1,z2⟩:=z;simp only at E;subst E
     have o:x.val.cells.toList=[x.val]:=by revert T;cases x.val<;>simp[Value.formed,Y,Value.cells]
     rw[o]at k;exact func_of_trod Y h3 k
    ·cases k
  ·obtain⟨x,V,G⟩:=Z.key y hy
   have K:=h.mem_iff.1 V;obtain⟨z,hz,rfl⟩:=FM.1 K;refine⟨z,hz,?_⟩;obtain⟨u,H⟩:=F.reads z hz;rw[rg_of H]at G;have a:=rd_key H;rw[G]at a;simp only[keyOf,X,mapKey]at a;split at a
   ·rename_i e _;cases e
   ·rename_i q q' m e R
    injection e with e;injection e with e;subst e;split at a
    ·rename_i S
     injection a with a;injection a with _ a;rw[R,S.1,a]
    ·cases a
   ·rename_i e _;cases e
   ·cases a
def zQQ(h:tO (yW .i64).eq b3 e=some m):(e,m)∈b3:=by
 induction b3 with
 |nil=>cases h|cons x r b=>
  unfold tO at h;cases a:(yW .i64).eq e x.1 with
  |false=>rw[a]at h;exact EX _ (b h)|true=>
   rw[a]at h;injection h with h;have:e=x.1:=eq_of_beq (show(e==x.1)=true from a);subst this;subst h;exact DZ ..
def yAu(h:tO (yW .i64).eq b3 e=none):∀y∈b3,y.1≠e:=by
 induction b3 with
 |nil=>intro y hy;cases hy
 |cons x r c=>
  unfold tO at h;cases b:(yW .i64).eq e x.1 with
  |true=>rw[b]at h;cases h|false=>
   rw[b]at h;intro y hy;rcases EC.1 hy with rfl|hy
   ·intro a
    have:(yW .i64).eq e y.1=true:=by rw[a];exact XY e
    rw[this]at b;cases b
   ·exact c h y hy
def yAd(a:(b3.map Prod.fst).Nodup)(h:(e,m)∈b3):tO (yW .i64).eq b3 e=some m:=by
 induction b3 with
 |nil=>cases h|cons x r b=>
  simp only[GY,KT]at a;unfold tO;rcases EC.1 h with rfl|h
  ·have:(yW .i64).eq e e=true:=XY e
   rw[this];rfl
  ·cases c:(yW .i64).eq e x.1 with
   |false=>exact b a.2 h|true=>
    have:e=x.1:=eq_of_beq (show(e==x.1)=true from c);subst this;exact absurd (OO (f:=Prod.fst) h) a.1
def zJe{b:List (Int×Option Nat)}:∀{es:List MapEntry},(∀x∈es,∃i f,x.key=.int .i64 i/\x.val=.func (.func f) #[] #[]/\(i,some f)∈b)->
  ∃a,es.map (λe=>(e.key,e.val))=Bg (yW .i64) Ri a/\(∀y∈a,y∈b)
 |[],_=>⟨[],O,λy hy=>by cases hy⟩|x::es,h=>by
  obtain⟨i,f,c,d,g⟩:=h x (DZ ..);obtain⟨t,j,k⟩:=zJe (es:=es) λy hy=>h y (EX _ hy)
  refine⟨(i,some f)::t,?_,λy hy=>?_⟩
  ·simp only[GY,Bg,c,d]
   rw[j];rfl
  ·rcases EC.1 hy with rfl|hy
   ·exact g
   ·exact k y hy
def zVM{l:List (String×DataW Unit)}{d:List (Lit×DataW Unit)}{t:Nat}{n:Bool}(o:laidMetH P l w)(e:(U,DataW.iface "func table" (.map d))∈l)(r:P.globalNamed U=some j)(s:(P.globals[j]?).map (·.type)=some t)(u:P.underlying t=some (.map D I))(z:P.underlying D=some (.int .i64))(A:P.underlying I=some (.func f8 f2 n))(B:Hg P b3 (DataW.funcsOutEntries d))(C:(b3.map Prod.fst).Nodup):(WR j b3).p (hp w):=by
 obtain⟨b,E,c,F,G,H,J⟩:=zYj o e r s u z A B;obtain⟨g,k,K⟩:=zJe H;refine⟨b,by rw[Ut];exact F,g,λq=>?_,E,c,G,k⟩;cases m:tO (yW .i64).eq g q with
 |some v=>exact(yAd C (K _ (zQQ m))).symm|none=>
  cases h:tO (yW .i64).eq b3 q with
  |none=>rfl|some v=>
   obtain⟨x,L,i⟩:=J _ (zQQ h)
   have M:(x.key,x.val)∈Bg (yW .i64) Ri g:=by rw[<-k];exact OO (f:=λI:MapEntry=>(I.key,I.val)) L
   obtain⟨y,hy,a⟩:=FM.1 M
   have:y.1=q:=by injection a with a _;rw[i]at a;injection a
   exact absurd this (yAu m y hy)
def zV0:Value:=.int .i64 0
def TA:Value:=.slice none 0 0
def Jq:Value:=.pointer none
def Jr:Value:=.bool false
def Js:Value:=.string ⟨#[]⟩
def zV5:Value:=.int .u8 0
def zV6:Value:=.int .u32 0
def zV7:Value:=.map none
def tI(k:IntKind)(b:Nat):TI:=⟨.int k,1,b,.int k 0,false⟩
def tP(e:Nat):TI:=⟨.pointer e,1,8,.pointer none,false⟩
def tL(e:Nat):TI:=⟨.slice e,1,24,.slice none 0 0,false⟩
def tS(l:List (Nat×Nat))(b:Nat)(z:List Value)(c:Bool):TI:=⟨.struct (l.map λx=>(x.1,x.2,false)),z.length,b,.agg z.toArray,c⟩
def tt:TT:=[
 ([2,3,32,274],tI .i64 8),
 ([4],⟨.bool,1,1,(.bool false),false⟩),
 ([5],tI .u8 1),
 ([9],⟨.string,1,16,(.string ⟨#[]⟩),false⟩),
 ([12,148,226,284],tI .u64 8),
 ([13],⟨(.struct [(9,0,false),(12,1,false)]),2,24,(.agg #[(.string ⟨#[]⟩),(.int .u64 0)]),false⟩),
 ([21],tI .i32 4),
 ([22],tL 5),
 ([24],tP 69),
 ([26],tP 75),
 ([31],tP 88),
 ([35],tP 92),
 ([38,39],tS [(3,0),(3,1),(3,2)] 24 [zV0,zV0,zV0] true),
 ([40,41],tS [(9,0),(39,1),(22,4)] 64 [Js,zV0,zV0,zV0,TA] true),
 ([42],tI .u32 4),
 ([43,44],tS [(41,0),(42,5)] 72 [Js,zV0,zV0,zV0,TA,zV6] true),
 ([45],⟨(.array 2 44),12,144,(.agg #[(.string ⟨#[]⟩),(.int .i64 0),(.int .i64 0),(.int .i64 0),(.slice none 0 0),(.int .u32 0),(.string ⟨#[]⟩),(.int .i64 0),(.int .i64 0),(.int .i64 0),(.slice none 0 0),(.int .u32 0)]),false⟩),
 ([46,47],tS [(9,0),(45,1),(3,13),(3,14),(4,15)] 184 [Js,Js,zV0,zV0,zV0,TA,zV6,Js,zV0,zV0,zV0,TA,zV6,zV0,zV0,Jr] true),
 ([50],tP 108),
 ([53],tL 47),
 ([54,55],tS [(9,0),(39,1),(9,4),(39,5)] 80 [Js,zV0,zV0,zV0,Js,zV0,zV0,zV0] true),
 ([56],tL 55),
 ([59],tL 41),
 ([60,61],tS [(59,0),(56,1)] 48 [TA,TA] true),
 ([68,69],tS [(22,0),(3,1)] 32 [TA,zV0] true),
 ([72],tP 142),
 ([73],tP 151),
 ([74,75],tS [(31,0),(72,1),(50,2),(73,3),(56,4)] 56 [Jq,Jq,Jq,Jq,TA] true),
 ([86],tL 3),
 ([87,88,141,142],tS [(3,0),(22,1),(86,2),(3,3),(3,4),(5,5),(4,6)] 80 [zV0,TA,TA,zV0,zV0,zV5,Jr] true),
 ([89,90],⟨(.map 5 22),1,8,(.map none),false⟩),
 ([91,92],tS [(31,0),(3,1),(3,2),(3,3),(90,4),(3,5),(4,6),(4,7)] 56 [Jq,zV0,zV0,zV0,zV7,zV0,Jr,Jr] true),
 ([94,95],tS [(3,0),(90,1),(3,2),(4,3)] 32 [zV0,zV7,zV0,Jr] true),
 ([104],tL 4),
 ([105,106],tS [(3,0),(3,1),(104,2),(22,3)] 64 [zV0,zV0,TA,TA] true),
 ([107,108],tS [(35,0),(53,1),(56,2),(3,3),(106,4),(5,8),(86,9)] 160 [Jq,TA,TA,zV0,zV0,zV0,TA,TA,zV5,TA] true),
 ([118,199],⟨.other,1,8,.nilFunc,false⟩),
 ([119],⟨(.map 3 118),1,8,(.map none),false⟩),
 ([127],tL 153),
 ([128,129],tS [(127,0),(127,1),(56,2)] 72 [TA,TA,TA] true),
 ([139],tL 9),
 ([143],tP 207),
 ([150,151],tS [(143,0),(53,1),(56,2),(3,3),(106,4),(3,8),(86,9)] 160 [Jq,TA,TA,zV0,zV0,zV0,TA,TA,zV0,TA] true),
 ([152,153],tS [(9,0),(39,1)] 40 [Js,zV0,zV0,zV0] true),
 ([167],tL 205),
 ([174],tP 44),
 ([176],tP 47),
 ([188],tP 190),
 ([189,190,215,216],tS [(22,0),(3,1),(4,2)] 40 [TA,zV0,Jr] true),
 ([198],⟨(.map 3 4),1,8,(.map none),false⟩),
 ([204,205],tS [(5,0),(22,1),(4,2)] 40 [zV5,TA,Jr] true),
 ([206,207],tS [(72,0),(3,1),(3,2),(3,3),(167,4),(3,5),(4,6)] 72 [Jq,zV0,zV0,zV0,TA,zV0,Jr] true),
 ([217],tL 42),
 ([234],⟨(.array 3 3),3,24,(.agg #[(.int .i64 0),(.int .i64 0),(.int .i64 0)]),false⟩),
 ([253],tP 216),
 ([263],⟨(.map 5 4),1,8,(.map none),false⟩),
 ([288],tP 3),
 ([290],tP 284),
 ([301],tP 5)]
def I5(f:Nat):Bool:=Nat.ble 2 f&&Nat.blt f 235||Nat.ble 236 f&&Nat.blt f 277||Nat.ble 296 f&&Nat.blt f 300||Nat.ble 303 f&&Nat.blt f 304
set_option maxRecDepth 100000 in
def yCK:gT Tryz.prog tt:=.of (by kernel_rfl)
set_option maxRecDepth 100000 in
def yBo:((List.range 304).all λf=>!I5 f||match Tryz.prog.funcs[f]?with
 |some fn=>!(fn.name== "runtime.NumGoroutine")&&!fn.body.isNone|none=>false)=true:=by kernel_rfl
def yCA(h:I5 j=true):j<304:=by simp only[I5,KZ,GX,Nat.blt_eq]at h;omega
instance:GZ Tryz.prog:=⟨tt,yCK,I5,λf h=>by
 have:=List.all_eq_true.1 yBo f (JS.2 (yCA h));rw[h,EG,QD]at this;split at this
 ·rename_i fn e
  simp only[GX,JQ]at this;exact⟨fn,e,this.1,this.2⟩
 ·cases this⟩
def mixed:Tryz.prog.follows .mixedOrders=true:=by kernel_rfl
def Vw{a:Type}:Nat->List As->(As->List As->Option a)->Option a
 |_,[],_=>none|0,x::F,k=>k x F|i+1,y::F,k=>Vw i F λx G=>k x (y::G)
def zIM{a:Type}{r:a}:∀{i:Nat} {F:List As} {k:As->List As->Option a},Vw i F k=some r->∃x G,Del F x G/\k x G=some r
 |_,[],_,h=>by cases‹Nat›<;>cases h|0,x::F,k,h=>⟨x,F,.z,h⟩|i+1,y::F,k,h=>by obtain⟨x,G,b,c⟩:=zIM (i:=i) h;exact⟨x,y::G,.s b,c⟩
def Vx{a:Type}:Nat->List As->(List As->Option a)->Option a
 |0,F,k=>k F|_+1,[],_=>none|n+1,_::F,k=>Vx n F k
def zGk{a:Type}{r:a}{k:List As->Option a}:∀{n:Nat} {F:List As},Vx n F k=some r->∃D H,F=D++H/\k H=some r
 |0,F,h=>⟨[],F,O,h⟩|_+1,[],h=>by cases h|n+1,x::F,h=>by obtain⟨D,H,b,c⟩:=zGk (n:=n) (F:=F) h;exact⟨x::D,H,by rw[b];rfl,c⟩
def jy{a:Type}:List Nat->Nat->List As->(List As->Option a)->Option a
 |[],d,F,k=>Vx d F k|i::b,d,F,k=>Vw i F λx G=>jy b d G λt=>k (x::t)
def I7{c:Type}{r:c}:∀{is:List Nat} {d:Nat} {F:List As} {k:List As->Option c},jy is d F k=some r->∃H D,k H=some r/\F.Perm (H++D)
 |[],d,F,k,h=>by obtain⟨D,H,a,b⟩:=zGk h;exact⟨H,D,b,a▸WZ⟩
 |i::is,d,F,k,h=>by obtain⟨x,G,a,b⟩:=zIM h;obtain⟨H,D,e,f⟩:=I7 (is:=is) b;exact⟨x::H,D,e,a.perm.trans (f.cons x)⟩
def Sat.part(h:Sat R w)(hp:R.Perm (F++G)):Sat F w:=by have a:=h.perm hp;have b:=a.nodup;rw[pN]at b;exact a.NZ (LU.1 b).1 λx c=>IY _ c
def Sat.sl(h:Sat F w)(a:List Nat)(d:Nat)(e:jy a d F some=some G):Sat G w:=by obtain⟨H,D,b,hp⟩:=I7 e;cases b;exact h.part hp
def zl(a:List Nat)(d:Nat)(e:jy a d F some=some G):∀w,Sat F w->Sat G w:=λ_ h=>h.sl a d e
def Ag{a:Type}:Nat->List As->(As->Option a)->Option a
 |_,[],_=>none|0,x::_,k=>k x|i+1,_::F,k=>Ag i F k
def I8{a:Type}{r:a}{k:As->Option a}:∀{i:Nat} {F:List As},Ag i F k=some r->∃x,x∈F/\k x=some r
 |_,[],h=>by cases‹Nat›<;>cases h|0,x::_,h=>⟨x,DZ ..,h⟩|i+1,_::F,h=>by obtain⟨x,b,c⟩:=I8 (i:=i) (F:=F) h;exact⟨x,EX _ b,c⟩
def zm{x:As}(i:Nat)(e:Ag i F some=some x):x∈F:=by obtain⟨y,a,b⟩:=I8 e;cases b;exact a
def Hl{a:Type}:List Nat->List As->(List As->Option a)->Option a
 |[],F,k=>k F|i::b,F,k=>Ag i F λx=>match x with
  |.ro r=>Hl b F λt=>k (.ro r::t)|.res _=>none
def zIG{a:Type}{r:a}:∀{is:List Nat} {F:List As} {k:List As->Option a},Hl is F k=some r->∃G,jD G=true/\(∀x∈G,x∈F)/\k (G++F)=some r
 |[],F,k,h=>⟨[],O,by simp,h⟩|i::is,F,k,h=>by
  obtain⟨x,c,b⟩:=I8 h;cases x with
  |res _=>cases b|ro q=>
   obtain⟨G,d,e,f⟩:=zIG (is:=is) b
   exact⟨.ro q::G,d,λy hy=>by
    rcases EC.1 hy with rfl|hy
    ·exact c
    ·exact e y hy,f⟩
def Sat.sd(h:Sat F w)(f g:List Nat)(d:Nat)(e:jy g d F (λH=>Hl f H some)=some G):Sat G w:=by
 obtain⟨H,D,i,hp⟩:=I7 e;obtain⟨a,j,k,l⟩:=zIG i;cases l;have c:=h.part hp;have m:=dM j;refine c.NZ ?_ λx b=>?_
 ·rw[pN,eD (F:=a) λx b=>by obtain⟨r,rfl⟩:=m x b;rfl]
  simpa using c.nodup
 ·rcases DW.1 b with b|b
  ·exact k x b
  ·exact b
def zd(a b:List Nat)(d:Nat)(e:jy b d F (λH=>Hl a H some)=some G):∀w,Sat F w->Sat G w:=λ_ h=>h.sd a b d e
def I9{a:Type}:List Nat->List As->(List As->Option a)->Option a
 |[],_,k=>k []|i::b,F,k=>Ag i F λx=>I9 b F λt=>k (x::t)
def zZY{k:List As->Option (List As)}:∀{a:List Nat},I9 a F k=some G->∃H,k H=some G/\∀x∈H,x∈F:=by
 intro a;induction a generalizing k with
 |nil=>exactλh=>⟨[],h,by simp⟩|cons i a b=>
  intro h;obtain⟨x,c,d⟩:=I8 h;obtain⟨H,e,f⟩:=b d
  exact⟨x::H,e,λy hy=>by
   rcases EC.1 hy with rfl|hy
   ·exact c
   ·exact f y hy⟩
def gD.of{F:List As}:∀{G:List As},(∀x∈G,x∈F)->gD G F
 |[],_=>trivial|x::G,h=>⟨h x (DZ ..),gD.of λy hy=>h y (EX _ hy)⟩
def za(a:List Nat)(e:I9 a F some=some G):gD G F:=by obtain⟨H,b,c⟩:=zZY e;cases b;exact gD.of c
def zi{x:As}(i:Nat)(e:Vw i F (λx G=>some (x,G))=some (x,G)):Del F x G:=by obtain⟨y,H,a,b⟩:=zIM e;cases b;exact a
def Rl{a:Type}:Nat->List As->(List As->Option a)->Option a
 |0,F,k=>k F|_+1,[],_=>none|n+1,x::F,k=>Rl n F λt=>k (x::t)
def zMK{a:Type}{r:a}:∀{n:Nat} {F:List As} {k:List As->Option a},Rl n F k=some r->k F=some r
 |0,_,_,h=>h|_+1,[],_,h=>by cases h|n+1,x::F,k,h=>zMK (n:=n) (F:=F) h
def bX{a:Type}:List Nat->Env->(Env->Option a)->Option a
 |[],_,k=>k []|i::c,b,k=>match get b i with
  |some v=>bX c b λt=>k ((i,v)::t)|none=>none
def J3{c:Type}{r:c}{a:Env}:∀{is:List Nat} {k:Env->Option c},bX is a k=some r->∃H,k H=some r/\iq H a
 |[],k,h=>⟨[],h,trivial⟩|i::is,k,h=>by
  unfold bX at h;cases b:get a i with
  |none=>rw[b]at h;cases h|some v=>
   rw[b]at h;obtain⟨H,d,e⟩:=J3 (is:=is) h;exact⟨(i,v)::H,d,b,e⟩
variable{K:Env}
def zb(e:bX (K.map Prod.fst) B some=some K):iq K B:=by obtain⟨H,a,b⟩:=J3 e;cases a;exact b
def J4(tt:TT)(ops:Array Oper)(c:Nat)(o:Oper)(a:Env)(k:Env->Option H):Option H:=
 match o.dst with
 |none=>none|some d=>bif Nat.blt d c then(match o.guard with
  |none=>(match ZM tt a o.op with
   |some v=>k ((d,v)::a)|none=>none)
  |some (j,b)=>match Fg ops j with
   |none=>none|some e=>match get a e with
    |none=>none|some v=>bif Fh v b then k ((d,undef)::a)else(match ZM tt a o.op with
     |some u=>k ((d,u)::a)|none=>none))else none
variable{i0:List Oper}{c7:H}
section
variable[T:GZ P]
def zKH{w0:World}{rest:List Oper}[W:Walk P J X]{o:Oper}{k:Env->Option H}(h:J4 T.tt J j o B k=some S):∃K,k K=some S/\(St w0 j K F (X rest)->St w0 j B F (X (o::rest))):=by
 obtain⟨l,f0,I,U,V,g⟩:=o;cases l with
 |none=>cases h|some D=>
  unfold J4 at h;simp only at h;cases d:Nat.blt D j with
  |false=>rw[d]at h;cases h|true=>
   rw[d,BD]at h;cases g with
   |none=>
    simp only at h;cases c:ZM T.tt B f0 with
    |none=>rw[c]at h;cases h|some v=>
     rw[c]at h;exact⟨_,h,λk=>.p d c k⟩
   |some m=>
    obtain⟨a,b⟩:=m;simp only at h;cases f:Fg J a with
    |none=>rw[f]at h;cases h|some n=>
     rw[f]at h;simp only at h;cases i:get B n with
     |none=>rw[i]at h;cases h|some v=>
      rw[i]at h;simp only at h;cases e:Fh v b with
      |true=>
       rw[e,BD]at h;exact⟨_,h,λk=>.ZC d f i e k⟩
      |false=>
       rw[e,BB]at h
       have q:v=.bool b:=by
        cases v<;>simp[Fh]at e
        rw[e]
       cases c:ZM T.tt B f0 with
       |none=>rw[c]at h;cases h|some u=>
        rw[c]at h;exact⟨_,h,λk=>.CV f (q▸i) (.p d c k)⟩
def Vy{a:Type}(tt:TT)(ops:Array Oper)(b:Nat):Nat->Env->List Oper->(Env->List Oper->Option a)->Option a
 |0,B,l,k=>k B l|_+1,_,[],_=>none|n+1,B,o::l,k=>J4 tt ops b o B λK=>Vy tt ops b n K l k
section
variable{w0:World}
def zIP[W:Walk P J X]{c:Type}{r:c}{k:Env->List Oper->Option c}:∀{n:Nat} {a:Env} {l:List Oper},Vy T.tt J j n a l k=some r->∃B d,k B d=some r/\(St w0 j B F (X d)->St w0 j a F (X l))
 |0,a,l,h=>⟨a,l,h,id⟩|_+1,_,[],h=>by cases h|n+1,a,o::l,h=>by obtain⟨e,f,g⟩:=zKH (P:=P) (w0:=w0) (F:=F) (X:=X) (rest:=l) h;obtain⟨b,i,m,p⟩:=zIP (n:=n) f;exact⟨b,i,m,λh=>g (p h)⟩
end
def yw{a:Type}(tt:TT)(ops:Array Oper)(b:Nat):Env->List Oper->(Env->Option a)->Option a
 |B,[],k=>k B|B,o::l,k=>J4 tt ops b o B λK=>yw tt ops b K l k
section
variable{w0:World}
def Vz[W:Walk P J X]{c:Type}{r:c}{k:Env->Option c}:∀{l:List Oper} {a:Env},yw T.tt J j a l k=some r->∃B,k B=some r/\(St w0 j B F (X [])->St w0 j a F (X l))
 |[],a,h=>⟨a,h,id⟩|o::l,a,h=>by obtain⟨d,e,f⟩:=zKH (P:=P) (w0:=w0) (F:=F) (X:=X) (rest:=l) h;obtain⟨b,g,i⟩:=Vz (l:=l) e;exact⟨b,g,λh=>f (i h)⟩
end
def St.n[W:Walk P J X](n:Nat){l a:List Oper}(e:Vy T.tt J j n B l (λB l=>some (B,l))=some (K,a))(k:St w j K F (X a)):St w j B F (X l):=by obtain⟨b,f,c,d⟩:=zIP (P:=P) (w0:=w) (F:=F) (X:=X) e;cases c;exact d k
def St.a(n:Nat){y:Code}(e:Vy T.tt L.toArray j n B L (λB L=>some (B,L))=some (K,i0))(k:St w j K F (wpList P L.toArray (Exit.then (y.wp P Q) Q) i0)):St w j B F ((Code.seq (Code.region D L.toArray false) y).wp P Q):=.seq (.region (.n n e k))
def St.b(a:List Nat)(e:yw T.tt J j B L (λB=>bX a B some)=some K)(k:St w j K F Y):St w j B F (wpList P J (Exit.then Y Q) L):=by obtain⟨c,d,f⟩:=Vz (P:=P) (w0:=w) (F:=F) (X:=wpList P J (Exit.then Y Q)) e;obtain⟨H,g,h⟩:=J3 d;cases g;exact f (.done (.DK (.slots h k)))
def St.bf(a c:List Nat)(d:Nat)(e:yw T.tt J j B L (λB=>bX a B some)=some K)(f:jy c d F some=some G)(k:St w j K G Y):St w j B F (wpList P J (Exit.then Y Q) L):=
 .b a e (.BF (zl c d f) k)
def St.ab(a:List Nat)(e:yw T.tt L.toArray j B L (λB=>bX a B some)=some K)(k:St w j K F (q.wp P Q)):St w j B F ((Code.seq (Code.region D L.toArray false) q).wp P Q):=.seq (.region (.b a e k))
def St.Ah(a b:List Nat)(d:Nat)(e:yw T.tt L.toArray j B L (λB=>bX a B some)=some K)(c:jy b d F some=some G)(k:St w j K G (q.wp P Q)):St w j B F ((Code.seq (Code.region D L.toArray false) q).wp P Q):=.seq (.region (.bf a b d e c k))
def St.be(e:yw T.tt J j B L some=some K)(k:St w j K F Y):St w j B F (wpList P J (Exit.then Y Q) L):=by obtain⟨a,b,c⟩:=Vz (P:=P) (w0:=w) (F:=F) (X:=wpList P J (Exit.then Y Q)) e;cases b;exact c (.done (.DK k))
def St.beq(e:yw T.tt J j B L some=some K)(k:St w j K F Y):St w j B F (Jb P J (Exit.then Y Q) L):=by obtain⟨a,b,c⟩:=Vz (P:=P) (w0:=w) (F:=F) (X:=Jb P J (Exit.then Y Q)) e;cases b;exact c (.Dh (.DK k))
def St.ae(e:yw T.tt L.toArray j B L some=some K)(k:St w j K F (q.wp P Q)):St w j B F ((Code.seq (Code.region D L.toArray false) q).wp P Q):=.seq (.region (.be e k))
def St.pr(a:List Nat)(e:bX a B some=some K)(k:St w j K F Y):St w j B F Y:=by obtain⟨H,b,c⟩:=J3 e;cases b;exact .slots c k
def St.pf(a b:List Nat)(d:Nat)(e:bX a B some=some K)(c:jy b d F some=some G)(k:St w j K G Y):St w j B F Y:=
 .pr a e (.BF (zl b d c) k)
def St.ss(i:Nat)(b:get B i=some h)(k:St w j ((i,h)::B) F Y):St w j B F Y:=
 λa c f d e g l=>k a c f d (At.cons (e i h b) e) g l
def St.nm(n:Nat)(e:Rl n F some=some G)(k:St w j B G Y):St w j B F Y:=by have:=zMK e;cases this;exact k
def St.sk(k:St w j B F Y):St w j B F (Code.skip.wp P (Exit.then Y Q)):=.skip (.DK k)
def St.cb{y:Code}{r:H}(h:(bif t then S else c7)=r)(a:ev B o=some (.bool t))(b:S=r->St w j B F (q.wp P Q))(c:c7=r->St w j B F (y.wp P Q)):St w j B F ((Code.cond o q y).wp P Q):=.cond t a (λe=>b (cH e h)) (λe=>c (cE e h))
def St.rt{fn:Func}{c:List ResultVar}(d:Q .ret=bodyPost P fn (Out w G b2) .ret)(b:fn.results=c.toArray)(e:jl T.tt B F c E)(f:xw E=some h)(hp:b2 h R)(g:∀a,Sat F a->Sat (R++G) a):St w j B F (Code.ret.wp P Q):=.ret (d▸St.TP b e f R hp g)
end
inductive Si where
 |k (i:Nat)
 |s (i:Nat) (v:Value)
inductive Fi where
 |k (i:Nat)
 |ro (r:Ro)
 |res (r:ah)
instance(n:Nat):OfNat Si n:=⟨.k n⟩
instance(n:Nat):OfNat Fi n:=⟨.k n⟩
def Ed{b:Type}(a:Env):List Si->(Env->Option b)->Option b
 |[],k=>k []|.k i::l,k=>match get a i with
  |some v=>Ed a l λt=>k ((i,v)::t)|none=>none
 |.s i v::l,k=>Ed a l λt=>k ((i,v)::t)
def Bo{a:Type}(F:List As)(n:Nat):List Fi->(List As->Option a)->Option a
 |[],k=>Vx n F k|.k i::l,k=>Ag i F λx=>Bo F n l λt=>k (x::t)|.ro r::l,k=>Bo F n l λt=>k (.ro r::t)|.res r::l,k=>Bo F n l λt=>k (.res r::t)
def J5{c:Type}:Nat->Nat->List As->(List As->Option c)->Option c
 |0,b,F,k=>Vx b F k|_+1,_,[],_=>none|a+1,b,x::F,k=>J5 a b F λt=>k (x::t)
def mA.drop{H:List As}:∀{D:List As},mA (D++H) H
 |[]=>.z|_::_=>.d mA.drop
def zGy{e:Type}{r:e}:∀{a b:Nat} {F:List As} {k:List As->Option e},J5 a b F k=some r->∃G,k G=some r/\mA F G
 |0,b,F,k,h=>by obtain⟨D,H,c,d⟩:=zGk h;subst c;exact⟨H,d,mA.drop⟩
 |_+1,_,[],_,h=>by cases h|a+1,b,x::F,k,h=>by obtain⟨G,c,d⟩:=zGy (a:=a) h;exact⟨x::G,c,.k d⟩
def sdx{k:List As->Option (List As)}(f g:List Nat)(d:Nat)(e:jy g d F (λH=>Hl f H k)=some G):∃a,k a=some G/\∀w,Sat F w->Sat a w:=by
 obtain⟨H,D,i,hp⟩:=I7 e;obtain⟨a,j,l,m⟩:=zIG i;refine⟨_,m,λw h=>?_⟩;have c:=h.part hp;have n:=dM j;refine c.NZ ?_ λx b=>?_
 ·rw[pN,eD (F:=a) λx b=>by obtain⟨r,rfl⟩:=n x b;rfl]
  simpa using c.nodup
 ·rcases DW.1 b with b|b
  ·exact l x b
  ·exact b
def zk(a b:Nat)(f g:List Nat)(d:Nat)(e:jy g d F (λH=>Hl f H λt=>J5 a b t some)=some G):∀w,Sat F w->Sat G w:=by obtain⟨c,i,j⟩:=sdx f g d e;obtain⟨m,k,l⟩:=zGy i;cases k;exactλw h=>l.sat (j w h)
def zw:∀w,Sat F w->Sat F w:=λ_ w=>w
class XQ(Q:Exit->Act->World->Prop)(i:Nat)(Y:outParam (Act->World->Prop))(b:outParam Bool):Prop where
 h:b=true->∀a w,Y a w->Q (.exit i) a w
instance(priority:=900){n:Act->World->Prop}{Q:Exit->Act->World->Prop}{i:Nat}{Y:Act->World->Prop}{b:Bool}[k:XQ Q i Y b]:XQ (Exit.then n Q) i Y b:=⟨k.h⟩
instance(priority:=1000){Q:Exit->Act->World->Prop}{i:Nat}:XQ (Exit.inBlock i Q) i (Q .normal) true:=⟨λ_ a w h=>by simpa[Exit.inBlock]using h⟩
instance(priority:=800){Q:Exit->Act->World->Prop}{i j:Nat}{Y:Act->World->Prop}{b:Bool}[k:XQ Q i Y b]:XQ (Exit.inBlock j Q) i Y (!Nat.beq i j&&b):=⟨λhb a w h=>by
 simp only[GX,JQ]at hb;have:i≠j:=λe=>by subst e;simp at hb
 simpa[Exit.inBlock,this]using k.h hb.2 a w h⟩
def J6{a:Type}(tt:TT)(b:Env)(F:List As):List ResultVar->(List Value->Option a)->Option a
 |[],k=>k []|.tmp t::c,k=>match get b t with
  |some v=>J6 tt b F c λd=>k (v::d)|none=>none
 |_,_=>none
def zNB{d:Type}{r:d}{tt:TT}{b:Env}{F:List As}:∀{rs:List ResultVar} {k:List Value->Option d},J6 tt b F rs k=some r->∃a,jl tt b F rs a/\k a=some r
 |[],k,h=>⟨[],.nil,h⟩|.tmp t::rs,k,h=>by
  unfold J6 at h;cases c:get b t with
  |none=>rw[c]at h;cases h|some v=>
   rw[c]at h;obtain⟨a,e,f⟩:=zNB (rs:=rs) h;exact⟨v::a,.tmp c e,f⟩
 |.cell _ _::_,k,h=>by cases h
variable{e9:H->Env}{f1:H->List As}{d7:H->Option (wZ H Z)}{f3:H->d4->Env}{f4:H->d4->List As}
section
variable[T:GZ P]
def St.aB7(m:Nat)(c:H->List Si)(d:H->List Fi)(_:(λe=>Ed B (c e) some)=λe=>some (e9 e))(_:(λe=>Bo F m (d e) some)=λe=>some (f1 e))(f:St w j B F (q.wp P (Exit.then (λa b=>∃e,a.tmps.size=j/\a.defers=[]/\At a (e9 e)/\Sat (f1 e) b/\Same w b) Q)))(g:∀e,St w j (e9 e) (f1 e) Y):St w j B F (q.wp P (Exit.then Y Q)):=.Lm e9 f1 f g
def St.Wh{c:H->Z->Env}{d:H->Z->List As}(m:Nat)(f:H->Z->List Si)(g:H->Z->List Fi)(_:(λs e=>Ed B (f s e) some)=λs e=>some (c s e))(_:(λs e=>Bo F m (g s e) some)=λs e=>some (d s e))(I:H->Prop)(h:St w j B F (q.wp P (Exit.then (λa b=>∃s e,I s/\a.tmps.size=j/\a.defers=[]/\At a (c s e)/\Sat (d s e) b/\Same w b) Q)))(i:∀s e,I s->St w j (c s e) (d s e) Y):St w j B F (q.wp P (Exit.then Y Q)):=.Lp c d I h i
def St.cu(m:Nat)(c:List Si)(d:List Fi)(_:Ed B c some=some K)(_:Bo F m d some=some G)(e:St w j B F (q.wp P (Exit.then (λa b=>∃_:Unit,a.tmps.size=j/\a.defers=[]/\At a K/\Sat G b/\Same w b) Q)))(f:St w j K G Y):St w j B F (q.wp P (Exit.then Y Q)):=.Lm (λ_=>K) (λ_=>G) e λ_=>f
def St.hU{c:Unit->Env}{f:Unit->List As}(d:bX ((c ()).map Prod.fst) B some=some (c ()))(g:∀b,Sat F b->Sat (f ()) b):St w j B F (λa b=>∃e:Unit,a.tmps.size=j/\a.defers=[]/\At a (c e)/\Sat (f e) b/\Same w b):=.VH () (zb d) g
def St.hE(e:H)(c:bX ((e9 e).map Prod.fst) B some=some (e9 e))(d:∀b,Sat F b->Sat (f1 e) b):St w j B F (λa b=>∃e,a.tmps.size=j/\a.defers=[]/\At a (e9 e)/\Sat (f1 e) b/\Same w b):=.VH e (zb c) d
def St.ag(b:d4)(d:d7 S=some (.next c7))(c:bX ((f3 c7 b).map Prod.fst) B some=some (f3 c7 b))(e:∀a,Sat F a->Sat (f4 c7 b) a):St w j B F (Ql j w d7 S f3 f4 λ_ _=>True):=.again c7 b d trivial (zb c) e
def St.Ee[AX](g:zZ d7 S=some c8)(k:Nat)(b:H->d4->List Si)(i:H->d4->List Fi)(_:(λs e=>Ed B (b s e) some)=λs e=>some (f3 s e))(_:(λs e=>Bo F k (i s e) some)=λs e=>some (f4 s e))(c:d4)(d:iq (f3 S c) B)(l:∀a,Sat F a->Sat (f4 S c) a)(round:∀s e st,d7 s=some st->(∀t,st=.done t->c8=t)->d7 s=some st->St w j (f3 s e) (f4 s e) (q.wp P (Exit.then (Ql j w d7 s f3 f4 λ_ _=>True) Q))):St w j B F ((Code.loop q).wp P Q):=
 .loop g f3 f4 (λ_ _=>True) c trivial d l λs e _ h=>by obtain⟨st,f,m⟩:=zTe h;exact round s e st f m f
def St.xq[k:XQ Q D Y t](b:t=true)(h:St w j B F Y):St w j B F ((Code.exit D).wp P Q):=.exit λa c d e f g i=>k.h b a c (h a c d e f g i)
def St.ET{X Y:Act->World->Prop}(m:Nat)(d:H->List Si)(f:H->List Fi)(_:(λe=>Ed B (d e) some)=λe=>some (e9 e))(_:(λe=>Bo F m (f e) some)=λe=>some (f1 e))(g:(∀b c e,iq (e9 e) b->(∀a,Sat c a->Sat (f1 e) a)->St w j b c Y)->St w j B F X)(h:∀e,St w j (e9 e) (f1 e) Y):St w j B F X:=.share e9 f1 g h
def St.bd{k:H->Option Z}(h:bnd d8 k=some c8)(g:∀x,d8=some x->k x=some c8->St w j B F Y):St w j B F Y:=by obtain⟨x,a,b⟩:=jk h;exact g x a b
def St.gs{c:Bool}{r:H}(a:Nat)(h:(bif c then S else c7)=r)(b:get B a=some (.bool c))(d:S=r->St w j ((a,.bool true)::B) F (X (⟨m,f0,D,U,V,some (I,t)⟩::L)))(f:c7=r->St w j ((a,.bool false)::B) F (X (⟨m,f0,D,U,V,some (I,t)⟩::L))):St w j B F (X (⟨m,f0,D,U,V,some (I,t)⟩::L)):=.VG c b (λe=>d (cH e h)) (λe=>f (cE e h))
def St.lb[a:Walk P J X]{t:Nat}(b i:Nat)(e:(Nat.blt D j,ev B o,Ag i F some,kA T.tt t E b)=(true,some (.pointer (some ⟨W,b,none⟩)),some (.res (Box W y E)),some h))(k:St w j ((D,h)::B) F (X L)):St w j B F (X (⟨some D,.load t o,I,U,V,none⟩::L)):=by injection e with c e;injection e with d e;injection e with f e4;exact .NS b c d (zm i f) O e4 k
def St.sb{t:Nat}{b:List Value}(a n:Nat)(e:(Vw n F (λo G=>some (o,G)),ev B o,ev B x,xG T.tt t,sN E a (zc h) some,Nat.beq (zc h).length N.size,(zc h).all λu=>u.oneCell')=(some (.res (Box I W E),G),some (.pointer (some ⟨I,a,none⟩)),some h,some N,some b,true,true))(k:St w j B (.res (Box I W b)::G) (wpList P J Q L)):St w j B F (wpList P J Q (⟨none,.store t o x,D,U,V,none⟩::L)):=by injection e with c e;injection e with d e;injection e with f e;injection e with e4 e;injection e with e5 e;injection e with e6 e7;exact .store a d f O e4 e6 e7 (zi n c) e5 k
def St.cq{b:List As}{G:List As}{R:List As}{args:List Value}{L:List As}(n:Nat)(c d:List Nat)(q:Nat)(a:CW P a7 args G (λv F=>v=h/\F=L))(e:(T.en a7,Nat.blt D j,ev B o,evs B c6,jy d q F (λH=>Hl c H some),Rl n (L++R) some)=(true,true,some (.func (.func a7) #[] #[]),some args,some (G++R),some b))(k:St w j ((D,h)::B) b (wpList P J Q i0)):St w j B F (wpList P J Q (⟨some D,.call {callee:=.value o,args:=c6.toArray,argTypes:=b7},I,U,V,none⟩::i0)):=by injection e with f e;injection e with g e;injection e with i e;injection e with l e;injection e with e4 e5;refine .call a f g i l (zd c d q e4) ?_;rintro _ _ ⟨rfl,rfl⟩;exact .nm n e5 k
def St.cr{f:Array Edge}{args:List Value}{V:Option Addr->Nat->Value}{L:Option Addr->Nat->List As}{a:Option Addr->Nat->List As}(n:Nat)(b d:List Nat)(q:Nat)(h:CW P a7 args G (λv F=>∃(A:Option Addr) (c:Nat),v=V A c/\F=L A c))(e:(T.en a7,Nat.blt D j,ev B o,evs B c6,jy d q F (λH=>Hl b H some),λA c=>Rl n (L A c++R) some)=(true,true,some (.func (.func a7) #[] #[]),some args,some (G++R),λA c=>some (a A c)))(k:∀A c,St w j ((D,V A c)::B) (a A c) (wpList P J Q i0)):St w j B F (wpList P J Q (⟨some D,.call {callee:=.value o,args:=c6.toArray,argTypes:=b7},I,U,f,none⟩::i0)):=by injection e with g e;injection e with i e;injection e with l e;injection e with m e;injection e with e4 e5;refine .call h g i l m (zd b d q e4) ?_;rintro _ _ ⟨A,c,rfl,rfl⟩;exact .nm n (congrFun (congrFun e5 A) c) (k A c)
def St.ct{i:Array Edge}{args:List Value}{V:Option Addr->Nat->Option Addr->Nat->Value}{L:Option Addr->Nat->Option Addr->Nat->List As}{d:Option Addr->Nat->Option Addr->Nat->List As}(n:Nat)(f g:List Nat)(q:Nat)(h:CW P a7 args G (λv F=>∃(A:Option Addr) (c:Nat) (a:Option Addr) (b:Nat),v=V A c a b/\F=L A c a b))(e:(T.en a7,Nat.blt D j,ev B o,evs B c6,jy g q F (λH=>Hl f H some),λA c a b=>Rl n (L A c a b++R) some)=(true,true,some (.func (.func a7) #[] #[]),some args,some (G++R),λA c a b=>some (d A c a b)))(k:∀A c a b,St w j ((D,V A c a b)::B) (d A c a b) (wpList P J Q i0)):St w j B F (wpList P J Q (⟨some D,.call {callee:=.value o,args:=c6.toArray,argTypes:=b7},I,U,i,none⟩::i0)):=by injection e with l e;injection e with m e;injection e with p e;injection e with r e;injection e with e4 e5;refine .call h l m p r (zd f g q e4) ?_;rintro _ _ ⟨A,c,a,b,rfl,rfl⟩;exact .nm n (congrFun (congrFun (congrFun (congrFun e5 A) c) a) b) (k A c a b)
def St.cv[W:Walk P J X]{args:List Value}(b:List Nat)(a:CW P a7 args G (Val h))(e:(T.en a7,Nat.blt D j,ev B o,evs B c6,jD G,I9 b F some)=(true,true,some (.func (.func a7) #[] #[]),some args,true,some G))(k:St w j ((D,h)::B) F (X L)):St w j B F (X (⟨some D,.call {callee:=.value o,args:=c6.toArray,argTypes:=b7},I,U,V,none⟩::L)):=by injection e with c e;injection e with d e;injection e with f e;injection e with g e;injection e with e4 e5;exact .Dj a c d f g e4 (za b e5) k
def St.rv{fn:Func}(b:Q .ret=bodyPost P fn (Out w G b2) .ret)(e:J6 T.tt B F fn.results.toList xw=some h)(hp:b2 h R)(c:∀a,Sat F a->Sat (R++G) a):St w j B F (Code.ret.wp P Q):=by obtain⟨g,d,f⟩:=zNB e;exact .rt b (by simp) d f hp c
def St.II[a:Walk P J X]{t:Nat}(hy:CO M e=some S)(m:Nat)(h:(Nat.blt D j,ev B o,ev B x,Ag m F some,xG T.tt t,N.desc,xG T.tt W,i.size)=(true,some (.slice A M.length y),some (.int a9 e),some (.ro (FB c4 A y M)),some N,.slice W,some i,c4.sz))(k:∀b f,St w j ((D,.pointer (some ⟨b,f,none⟩))::B) (.ro (gN b f (c4.enc S))::F) (X L)):St w j B F (X (⟨some D,.indexAddr t o x,I,U,V,none⟩::L)):=by simp only[KD]at h;exact .Dv hy h.1 h.2.1 h.2.2.1 (zm m h.2.2.2.1) O h.2.2.2.2.1 h.2.2.2.2.2.1 h.2.2.2.2.2.2.1 h.2.2.2.2.2.2.2 k
def St.SY[a:Walk P J X]{t:Nat}(hy:CO M e=some S)(m:Nat)(h:(Nat.blt D j,ev B o,ev B x,Ag m F some,xG T.tt t,N.desc,xG T.tt W,i.size)=(true,some (.slice A M.length f),some (.int a9 e),some (.res (zJ c4 y A f M)),some N,.slice W,some i,c4.sz))(k:∀g,A=some ⟨g,0,none⟩->St w j ((D,.pointer (some ⟨g,e.toNat*c4.sz,none⟩))::B) F (X L)):St w j B F (X (⟨some D,.indexAddr t o x,I,U,V,none⟩::L)):=by simp only[KD]at h;exact .au hy h.1 h.2.1 h.2.2.1 (zm m h.2.2.2.1) O h.2.2.2.2.1 h.2.2.2.2.2.1 h.2.2.2.2.2.2.1 h.2.2.2.2.2.2.2 k
def St.PK[a:Walk P J X]{t:Nat}(hy:CO M e=some S)(m:Nat)(h:(Nat.blt D j,ev B o,ev B x,Ag m F some,xG T.tt t,N.desc,xG T.tt W,i.size)=(true,some (.slice A M.length y),some (.int a9 e),some (.ro (Sl (zW d0) A y M)),some N,.slice W,some i,d0.length))(k:∀b f (c:PO d0),St w j ((D,.pointer (some ⟨b,f,none⟩))::B) (.ro (gN b f (rP S d0 c))::(tK S d0 c++F)) (X L)):St w j B F (X (⟨some D,.indexAddr t o x,I,U,V,none⟩::L)):=by simp only[KD]at h;exact .ja hy h.1 h.2.1 h.2.2.1 (zm m h.2.2.2.1) O h.2.2.2.2.1 h.2.2.2.2.2.1 h.2.2.2.2.2.2.1 h.2.2.2.2.2.2.2 k
def St.ld[a:Walk P J X]{t:Nat}(e:Nat)(b m:Nat)(c:(Nat.blt D j,ev B o,Ag m F some,kA T.tt t E b)=(true,some (.pointer (some ⟨W,e+b,none⟩)),some (.ro (gN W e E)),some h))(k:St w j ((D,h)::B) F (X L)):St w j B F (X (⟨some D,.load t o,I,U,V,none⟩::L)):=by simp only[KD]at c;exact .load e b c.1 c.2.1 (zm m c.2.2.1) O c.2.2.2 k
def St.bS{t:Nat}{a:Array (Nat×Operand)}(h:(Nat.blt D j,xG T.tt t,N.desc,xG T.tt W,Nat.beq (zc i.zero).length i.size,Nat.blt 0 i.size,Gu B (λN=>some (N*i.size,i.size)) (ZE y (zc i.zero)) a.toList,Nat.ble (y*i.size) 16777216)=(true,some N,.slice W,some i,true,true,some E,true))(k:∀g,St w j ((D,.slice (some ⟨g,0,none⟩) y y)::B) (.res (Box g W E)::F) (wpList P J Q L)):St w j B F (wpList P J Q (⟨some D,.buildSlice t y a,I,U,V,none⟩::L)):=by simp only[KD]at h;exact .buildSlice h.1 h.2.1 h.2.2.1 h.2.2.2.1 h.2.2.2.2.1 h.2.2.2.2.2.1 h.2.2.2.2.2.2.1 h.2.2.2.2.2.2.2 k
def St.sB{r:H}(a:Nat)(h:(bif t then S else c7)=r)(b:get B a=some (.bool t))(c:S=r->St w j ((a,.bool true)::B) F Y)(d:c7=r->St w j ((a,.bool false)::B) F Y):St w j B F Y:=
 .splitB t b (λe=>c (cH e h)) (λe=>d (cE e h))
def St.yl{t:Nat}(b m:Nat)(a:(Nat.blt D j,ev B o,Ag m G some,kA T.tt t E b)=(true,some (.pointer (some ⟨W,b,none⟩)),some (.res (Box W y E)),some h))(k:St w j ((D,h)::B) F (KP P J (Sat G) Y d6)):St w j B F (KP P J (Sat G) Y (.st ⟨.fl,f,⟨some D,.load t o,I,U,V,none⟩⟩ d6)):=by simp only[KD]at a;exact .OB (λ_ a=>a) (Rd.NS b a.2.1 (zm m a.2.2.1) O a.2.2.2) a.1 k
def St.yx{t:Nat}(b m:Nat)(a:(Nat.blt D j,ev B o,Ag m F some,kA T.tt t E b)=(true,some (.pointer (some ⟨W,b,none⟩)),some (.res (Box W y E)),some h))(k:St w j ((D,h)::B) F (KP P J C Y d6)):St w j B F (KP P J C Y (.st ⟨.fx,f,⟨some D,.load t o,I,U,V,none⟩⟩ d6)):=by simp only[KD]at a;exact .JF (Rd.NS b a.2.1 (zm m a.2.2.1) O a.2.2.2) a.1 k
def tg4:Nat->Tg
 |0=>.fl|1=>.fx|2=>.qc|_=>.ef
def iN:List Nat->Fv->Fv
 |[],t=>t|n::r,t=>.st (tg4 (n%4)) (n/4) (iN r t)
def Wi:Tg->Bool
 |.fl=>true|.fx=>true|_=>false
def Rn{d:Type}(tt:TT)(ops:Array Oper)(c:Nat):Nat->Env->Tr->(Env->Tr->Option d)->Option d
 |0,B,t,k=>k B t|_+1,_,.nil,_=>none|_+1,_,.alt _ _,_=>none|n+1,B,.st z t,k=>match z.o.dst with
  |none=>none|some j=>bif Nat.blt j c then(match z.o.guard with
   |none=>bif Wi z.t then(match ZM tt B z.o.op with
    |some v=>Rn tt ops c n ((j,v)::B) t k|none=>none)else none
   |some (a,b)=>match Fg ops a with
    |none=>none|some e=>match get B e with
     |none=>none|some v=>bif Fh v b then Rn tt ops c n ((j,undef)::B) t k else(bif Wi z.t then(match ZM tt B z.o.op with
      |some u=>Rn tt ops c n ((j,u)::B) t k|none=>none)else none))else none
section
variable{w0:World}{ops:Array Oper}
def J7{A:Type}{r:A}{k:Env->Tr->Option A}{Qn:Act->World->Prop}:∀{n:Nat} {l:Env} {t:Tr},Rn T.tt ops j n l t k=some r->∃B E,k B E=some r/\(St w0 j B F (KP P ops C Qn E)->St w0 j l F (KP P ops C Qn t))
 |0,l,t,h=>⟨l,t,h,id⟩|_+1,_,.nil,h=>by cases h|_+1,_,.alt _ _,h=>by cases h|n+1,l,.st ⟨g,i,⟨z,f0,I,U,V,G⟩⟩ t,h=>by
  unfold Rn at h;cases z with
  |none=>cases h|some D=>
   simp only at h;cases m:Nat.blt D j with
   |false=>rw[m]at h;cases h|true=>
    rw[m]at h;simp only[BD]at h
    have hp:∀{u:Value} {B:Env},Wi g=true->ZM T.tt B f0=some u->St w0 j ((D,u)::B) F (KP P ops C Qn t)->St w0 j B F (KP P ops C Qn (.st ⟨g,i,⟨some D,f0,I,U,V,none⟩⟩ t)):=λe d k=>by
     cases g with
     |fl=>exact .OB (F₁:=[]) (λw _=>Sat.nil w) (Rd.p d) m k|fx=>exact .JF (Rd.p d) m k|_=>cases e
    cases G with
    |none=>
     simp only at h;cases e:Wi g with
     |false=>rw[e]at h;cases h|true=>
      rw[e,BD]at h;cases d:ZM T.tt l f0 with
      |none=>rw[d]at h;cases h|some v=>
       rw[d]at h;obtain⟨c,o,q,s⟩:=J7 (n:=n) h;exact⟨c,o,q,λk=>hp e d (s k)⟩
    |some H=>
     obtain⟨a,b⟩:=H;simp only at h;cases y:Fg ops a with
     |none=>rw[y]at h;cases h|some J=>
      rw[y]at h;simp only at h;cases f:get l J with
      |none=>rw[f]at h;cases h|some v=>
       rw[f]at h;simp only at h;cases x:Fh v b with
       |true=>
        rw[x,BD]at h;obtain⟨c,o,q,s⟩:=J7 (n:=n) h;exact⟨c,o,q,λk=>.Vo m y f x (s k)⟩
       |false=>
        rw[x,BB]at h
        have K:v=.bool b:=by
         cases v<;>simp[Fh]at x
         rw[x]
        cases e:Wi g with
        |false=>rw[e]at h;cases h|true=>
         rw[e,BD]at h;cases d:ZM T.tt l f0 with
         |none=>rw[d]at h;cases h|some u=>
          rw[d]at h;obtain⟨c,o,q,s⟩:=J7 (n:=n) h;exact⟨c,o,q,λk=>.LX y (K▸f) (hp e d (s k))⟩
end
def St.yn(n:Nat){t:Tr}(e:Rn T.tt J j n B t (λB t=>some (B,t))=some (K,d6))(k:St w j K F (KP P J C Y d6)):St w j B F (KP P J C Y t):=by obtain⟨a,d,b,c⟩:=J7 (P:=P) (w0:=w) (F:=F) (ops:=J) (C:=C) (Qn:=Y) e;cases b;exact c k
end
inductive GS where
 |c (x:Code)
 |l (ops:Array Oper) (r:List Oper)
def fr(P:Program):List Code->(Exit->Act->World->Prop)->Exit->Act->World->Prop
 |[],Q=>Q|y::a,Q=>Exit.then (y.wp P (fr P a Q)) (fr P a Q)
def gw(P:Program):GS->(Exit->Act->World->Prop)->Act->World->Prop
 |.c x,Q=>x.wp P Q|.l ops r,Q=>wpList P ops Q r
def TG:Code->GS
 |.region _ a false=>.l a a.toList|x=>.c x
def Ef {h:Type} (tt:TT) (g:Nat):Nat->Nat->Env->GS->List Code->(Env->GS->List Code->Option h)->Option h
 |0,_,_,_,_,_=>none| f+1,n,d,s,e,k=>bif Nat.beq n 0 then k d s e else
  match s with
  |.c (.seq x y)=>Ef tt g f (Nat.div n 10) d (bif Nat.beq (Nat.mod n 10) 1 then TG x else .c x) (y::e) k|.c (.region i a b)=>Ef tt g f (Nat.div n 10) d (TG (.region i a b)) e k|.c .skip=>match e with
   |y::e=>Ef tt g f (Nat.div n 10) d (.c y) e k|[]=>none
  |.c _=>none| .l ops r=>bif Nat.beq (Nat.mod n 10) 1 then yw tt ops g d r λd=>(match e with
    |y::e=>Ef tt g f (Nat.div n 10) d (.c y) e k|[]=>none)
   else Vy tt ops g (Nat.pred (Nat.mod n 10)) d r λd r=>Ef tt g f (Nat.div n 10) d (.l ops r) e k
variable{b4 d9:List Code}
section
variable[T:GZ P]
def St.TG{x:Code}(h:St w j B F (gw P (TG x) Q)):St w j B F (x.wp P Q):=by
 cases x with
 |region i a b=>
  cases b with
  |false=>exact .region h|true=>exact h
 |_=>exact h
section
variable{w0:World}
def eP{E:Type}{r:E}:∀{f n:Nat} {A:Env} {s:GS} {e:List Code} {k:Env->GS->List Code->Option E},Ef T.tt j f n A s e k=some r->
  ∃B G u,k B G u=some r/\(St w0 j B F (gw P G (fr P u Q))->St w0 j A F (gw P s (fr P e Q)))
 |0,_,_,_,_,_,h=>by cases h|f+1,n,A,s,e,k,h=>by
  unfold Ef at h;cases H:Nat.beq n 0 with
  |true=>rw[H]at h;exact⟨A,s,e,h,id⟩|false=>
   rw[H,BB]at h;cases s with
   |c x=>
    cases x with
    |seq x y=>
     obtain⟨d,v,w,m,o⟩:=eP (f:=f) h;refine⟨d,v,w,m,λg=>.seq ?_⟩;have p:=o g;cases z:Nat.beq (Nat.mod n 10) 1 with
     |true=>rw[z]at p;exact .TG p|false=>rw[z]at p;exact p
    |region i a b=>
     obtain⟨d,v,w,m,o⟩:=eP (f:=f) h;exact⟨d,v,w,m,λg=>.TG (o g)⟩
    |skip=>
     cases e with
     |nil=>cases h|cons y e=>
      obtain⟨d,v,w,m,o⟩:=eP (f:=f) h;exact⟨d,v,w,m,λg=>.sk (o g)⟩
    |_=>cases h
   |l J I=>
    cases z:Nat.beq (Nat.mod n 10) 1 with
    |true=>
     simp only[z,BD]at h;obtain⟨d,m,o⟩:=Vz (P:=P) (w0:=w0) (F:=F) (X:=wpList P J (fr P e Q)) h;cases e with
     |nil=>cases m|cons y e=>
      obtain⟨q,C,t,p,D⟩:=eP (f:=f) m;exact⟨q,C,t,p,λg=>o (.done (.DK (D g)))⟩
    |false=>
     simp only[z,BB]at h;obtain⟨d,K,m,o⟩:=zIP (P:=P) (w0:=w0) (F:=F) (X:=wpList P J (fr P e Q)) h;obtain⟨q,C,t,p,D⟩:=eP (f:=f) m;exact⟨q,C,t,p,λg=>o (D g)⟩
end
def St.g(n:Nat){a:Code}(e:Ef T.tt j 99 n B (.c q) b4 (λB s b4=>some (B,s,b4))=some (K,.c a,d9))(k:St w j K F (a.wp P (fr P d9 Q))):St w j B F (q.wp P (fr P b4 Q)):=by obtain⟨_,_,_,b,d⟩:=eP (P:=P) (w0:=w) (F:=F) (Q:=Q) e;cases b;exact d k
def St.k(n:Nat){c:Code}{d:List Oper}{b a:List Code}(e:Ef T.tt j 99 n B (.c c) b (λB s b=>some (B,s,b))=some (K,.l J d,a))(k:St w j K F (wpList P J (fr P a Q) d)):St w j B F (c.wp P (fr P b Q)):=by obtain⟨_,_,_,f,g⟩:=eP (P:=P) (w0:=w) (F:=F) (Q:=Q) e;cases f;exact g k
def St.u(n:Nat)(e:Ef T.tt j 99 n B (.l J L) b4 (λB s b4=>some (B,s,b4))=some (K,.c q,d9))(k:St w j K F (q.wp P (fr P d9 Q))):St w j B F (wpList P J (fr P b4 Q) L):=by obtain⟨_,_,_,a,b⟩:=eP (P:=P) (w0:=w) (F:=F) (Q:=Q) e;cases a;exact b k
def St.v{a:Array Oper}(n:Nat)(e:Ef T.tt j 99 n B (.l J L) b4 (λB s b4=>some (B,s,b4))=some (K,.l a i0,d9))(k:St w j K F (wpList P a (fr P d9 Q) i0)):St w j B F (wpList P J (fr P b4 Q) L):=by obtain⟨_,_,_,b,c⟩:=eP (P:=P) (w0:=w) (F:=F) (Q:=Q) e;cases b;exact c k
instance(priority:=950){ys:List Code}{i:Nat}{b:Bool}[k:XQ Q i Y b]:XQ (fr P ys Q) i Y b:=⟨λhb a w h=>by
 induction ys with
 |nil=>exact k.h hb a w h|cons y ys ih=>exact ih⟩
def St.uq(e:yw T.tt J j B L some=some K)(k:St w j K F (q.wp P (fr P b4 Q))):St w j B F (Jb P J (fr P (q::b4) Q) L):=.beq e k
def St.pg(a:List Nat)(d:Nat)(e:jy a d F some=some G)(k:St w j B G Y):St w j B F Y:=.BF (zl a d e) k
def St.kl(a b:Nat)(e:J5 a b F some=some G)(k:St w j B G Y):St w j B F Y:=
 .BF (λc h=>by obtain⟨R,d,f⟩:=zGy e;cases d;exact f.sat h) k
def St.bk(h:St w j B F (q.wp P (fr P [] (Exit.inBlock D Q)))):St w j B F ((Code.block D q).wp P Q):=.block h
def St.ck(m:Nat)(c:H->List Si)(d:H->List Fi)(f:(λe=>Ed B (c e) some)=λe=>some (e9 e))(g:(λe=>Bo F m (d e) some)=λe=>some (f1 e))(h:St w j B F (q.wp P (fr P [] (Exit.then (λa b=>∃e,a.tmps.size=j/\a.defers=[]/\At a (e9 e)/\Sat (f1 e) b/\Same w b) Q))))(i:∀e,St w j (e9 e) (f1 e) Y):St w j B F (q.wp P (Exit.then Y Q)):=.aB7 m c d f g h i
def St.cj{c:H->Z->Env}{f:H->Z->List As}(m:Nat)(d:H->Z->List Si)(g:H->Z->List Fi)(h:(λs e=>Ed B (d s e) some)=λs e=>some (c s e))(i:(λs e=>Bo F m (g s e) some)=λs e=>some (f s e))(I:H->Prop)(k:St w j B F (q.wp P (fr P [] (Exit.then (λa b=>∃s e,I s/\a.tmps.size=j/\a.defers=[]/\At a (c s e)/\Sat (f s e) b/\Same w b) Q))))(l:∀s e,I s->St w j (c s e) (f s e) Y):St w j B F (q.wp P (Exit.then Y Q)):=.Wh m d g h i I k l
def St.co(m:Nat)(c:List Si)(d:List Fi)(e:Ed B c some=some K)(f:Bo F m d some=some G)(g:St w j B F (q.wp P (fr P [] (Exit.then (λa b=>∃_:Unit,a.tmps.size=j/\a.defers=[]/\At a K/\Sat G b/\Same w b) Q))))(h:St w j K G Y):St w j B F (q.wp P (Exit.then Y Q)):=.cu m c d e f g h
def St.lp[AX](g:zZ d7 S=some c8)(c:d4)(k:Nat)(b:H->d4->List Si)(f:H->d4->List Fi)(h:(λs e=>Ed B (b s e) some)=λs e=>some (f3 s e))(i:(λs e=>Bo F k (f s e) some)=λs e=>some (f4 s e))(d:bX ((f3 S c).map Prod.fst) B some=some (f3 S c))(l:∀a,Sat F a->Sat (f4 S c) a)(round:∀s e st,d7 s=some st->(∀t,st=.done t->c8=t)->d7 s=some st->St w j (f3 s e) (f4 s e) (q.wp P (fr P [] (Exit.then (Ql j w d7 s f3 f4 λ_ _=>True) (Exit.inBlock D Q))))):St w j B F ((Code.block D (Code.loop q)).wp P Q):=
 .block (.Ee g k b f h i c (zb d) l round)
def St.sn(k:St w j B F (q.wp P (fr P b4 Q))):St w j B F (Code.skip.wp P (fr P [] (Exit.inBlock D (fr P (q::b4) Q)))):=.skip k
def St.bn(k:St w j B F (q.wp P (fr P b4 Q))):St w j B F (fr P [] (Exit.inBlock D (fr P (q::b4) Q)) .normal):=k
def St.tn(k:St w j B F (q.wp P (fr P b4 Q))):St w j B F (fr P (q::b4) Q .normal):=k
def St.th(k:St w j B F Y):St w j B F (fr P [] (Exit.then Y Q) .normal):=k
def zOr{a:Act}(h:Q (.exit j) a w):fr P b4 Q (.exit j) a w:=by
 induction b4 with
 |nil=>exact h|cons y b4 b=>exact b
def St.xx{n:Act->World->Prop}(k:St w j B F n):St w j B F ((Code.exit D).wp P (fr P b4 (Exit.then Y (Exit.inBlock D (fr P [] (Exit.then n Q)))))):=
 .exit λa b c d e f g=>zOr (by simpa[Exit.then,Exit.inBlock,fr]using k a b c d e f g)
def St.xy(k:St w j B F (q.wp P (fr P d9 Q))):St w j B F ((Code.exit D).wp P (fr P b4 (Exit.inBlock D (fr P (q::d9) Q)))):=
 .exit λa b c d e f g=>zOr (by simpa[Exit.then,Exit.inBlock,fr]using k a b c d e f g)
def St.xz(k:St w j B F (q.wp P (fr P d9 Q))):St w j B F ((Code.exit D).wp P (fr P b4 (Exit.then Y (Exit.inBlock D (fr P (q::d9) Q))))):=
 .exit λa b c d e f g=>zOr (by simpa[Exit.then,Exit.inBlock,fr]using k a b c d e f g)
def Rq(P:Program)(c:Code)(Q:Exit->Act->World->Prop):Nat->Act->World->Prop
 |0=>Code.rounds P c Q 0|n+1=>c.wp P (fr P [] (Exit.then (Rq P c Q n) Q))
def zKS{c:Code}:∀n,Rq P c Q n=Code.rounds P c Q n
 |0=>rfl|n+1=>by show c.wp P (Exit.then (Rq P c Q n) Q)=c.wp P (Exit.then (Code.rounds P c Q n) Q);rw[zKS n]
def St.rz(n:Nat)(h:St w j B F (Rq P q Q n)):St w j B F ((Code.loop q).wp P Q):=.rounds n (zKS (P:=P) (Q:=Q) n▸h)
def St.ry(h:St w j B F (q.wp P (fr P [] (Exit.then (Rq P q Q D) Q)))):St w j B F (Rq P q Q (D+1)):=h
def ij(h:some S=some c7):S=c7:=by cases h;rfl
def hz{b:Z}{o:Z⊕d4}{f:d4->Option Z}{st:wZ H (Z⊕d4)}(a:some (wZ.done (.inl c8))=some st)(c:∀t,st=.done t->o=t)(h:xX o f=some b):c8=b:=by cases a;cases c _ rfl;cases h;rfl
def hxd{st:wZ Z H}(a:some (wZ.done S)=some st)(b:∀t,st=.done t->c7=t):c7=S:=by cases a;exact b _ O
def hy{st:wZ Z H}(a:some (wZ.done S)=some st)(b:∀t,st=.done t->c7=t):S=c7:=(hxd a b).symm
def St.bh{st:wZ H Z}(b:d4)(h:some (wZ.next c7)=some st)(d:d7 S=some st)(e:yw T.tt J j B L some=some K)(c:bX ((f3 c7 b).map Prod.fst) K some=some (f3 c7 b))(f:∀a,Sat F a->Sat (f4 c7 b) a):St w j B F (wpList P J (fr P [] (Exit.then (Ql j w d7 S f3 f4 λ_ _=>True) Q)) L):=by cases h;exact .be e (.ag b d c f)
def CW.iz{fn:Func}{args:List Value}(e:(P.funcs[a7]?,fn.body,fn.ntmps,Nat.ble args.length j)=(some fn,some q,j,true))(h:∀w F,St w j (ML 0 args) (G++F) (q.wp P (fr P [] (bodyPost P fn (Out w F b2))))):CW P a7 args G b2:=by injection e with a e;injection e with b e;injection e with c d;exact .intro a b c d h
def St.bu{c:Unit->Env}{f:Unit->List As}(e:yw T.tt J j B L some=some K)(d:bX ((c ()).map Prod.fst) K some=some (c ()))(g:∀b,Sat F b->Sat (f ()) b):St w j B F (wpList P J (Exit.then (λa b=>∃e:Unit,a.tmps.size=j/\a.defers=[]/\At a (c e)/\Sat (f e) b/\Same w b) Q) L):=.be e (.hU d g)
def St.bE(x:H)(e:yw T.tt J j B L some=some K)(c:bX ((e9 x).map Prod.fst) K some=some (e9 x))(d:∀b,Sat F b->Sat (f1 x) b):St w j B F (wpList P J (Exit.then (λa b=>∃e,a.tmps.size=j/\a.defers=[]/\At a (e9 e)/\Sat (f1 e) b/\Same w b) Q) L):=.be e (.hE x c d)
end
def jJ(b:Bool)(g:Nat):Option Addr:=bif b then some ⟨g,0,none⟩else none
def vZ(b:Bool):Option Bool:=bif b then some true else none
def yBr{x:Bool}(h:vZ t=some x):t=true:=by
 cases t
 ·cases h
 ·rfl
def yBM(h:t=true):jJ t j=some ⟨j,0,none⟩:=by subst h;rfl
def xY{x:Bool}(h:vZ t=some x):some (Value.pointer (jJ t j))=some (Value.pointer (some ⟨j,0,none⟩)):=by rw[yBM (yBr h)]
def NG.none0(m:Hp):NG c5 none 0 [] m:=⟨FN _,by simp[maxLen],λ_=>O,λa h=>by cases h⟩
def Ai{a b:Type}(c:a->a->Bool):List (a×b)->a->List (a×b)
 |[],_=>[]|x::r,k=>bif c k x.1 then r else x::Ai c r k
def nY{a b:Type}(K:kZ a)(E:JL b)(z:Hp):List (a×List b)->List MapEntry->Prop
 |[],[]=>True|x::m,e::d=>e.key=K.v x.1/\(∃A c,e.val=.slice A x.2.length c/\NG E A c x.2 z)/\nY K E z m d|_,_=>False
def nY.mono{b d:Type}{K:kZ b}{E:JL d}{z f:Hp}(hz:Hp.le z f):∀{m:List (b×List d)} {a:List MapEntry},nY K E z m a->nY K E f m a
 |[],[],_=>trivial|x::m,e::a,h=>by obtain⟨g,⟨A,c,i,j⟩,k⟩:=h;exact⟨g,⟨A,c,i,(Sl E A c x.2).mono _ _ hz j⟩,nY.mono hz k⟩
 |[],_::_,h=>h.elim|_::_,[],h=>h.elim
def nY.len{a b:Type}{K:kZ a}{E:JL b}{z:Hp}:∀{m:List (a×List b)} {c:List MapEntry},nY K E z m c->c.length=m.length
 |[],[],_=>rfl|_::_,_::_,h=>by simp[nY.len h.2.2]|[],_::_,h=>h.elim|_::_,[],h=>h.elim
def nY.snoc{a b:Type}{K:kZ a}{E:JL b}{z:Hp}{k:a}{v:List b}{e:MapEntry}(d:e.key=K.v k)(f:∃A c,e.val=.slice A v.length c/\NG E A c v z):∀{m:List (a×List b)} {g:List MapEntry},nY K E z m g->nY K E z (m++[(k,v)]) (g++[e])
 |[],[],_=>⟨d,f,trivial⟩|_::_,_::_,h=>⟨h.1,h.2.1,nY.snoc d f h.2.2⟩|[],_::_,h=>h.elim|_::_,[],h=>h.elim
def ZO(a:List MapEntry)(b:Nat):Prop:=(∀x∈a,x.born<b)/\(a.map (·.born)).Nodup
def ZO.nil(a:Nat):ZO [] a:=⟨(λx h=>by cases h),UL⟩
variable{i6:List MapEntry}
def ZO.push(h:ZO i6 j)(k v:Value):ZO (i6++[⟨k,v,j⟩]) (j+1):=by
 refine⟨λx c=>?_,?_⟩
 ·rcases DW.1 c with c|c
  ·have:=h.1 x c;omega
  ·rw[FI]at c;subst c;exact Nat.lt_succ_self _
 ·rw[MC]
  refine LU.2 ⟨h.2,by simp,λa d b e=>?_⟩;obtain⟨x,c,rfl⟩:=FM.1 d;have:=h.1 x c;simp only[GY,QE,FI]at e;omega
def ZO.modify{f:MapEntry->MapEntry}(d:∀e,(f e).born=e.born):∀{a:List MapEntry} {b:Nat} (i:Nat),ZO a b->ZO (a.modify i f) b:=λ{a b} i h=>by
 have e:∀(l:List MapEntry) (i:Nat),(l.modify i f).map (·.born)=l.map (·.born):=λl=>by
  induction l with
  |nil=>intro i;cases i<;>rfl
  |cons x r g=>
   intro i;cases i with
   |zero=>simp[d]|succ i=>simp[g]
 refine⟨λx j=>?_,by rw[e];exact h.2⟩;have:x.born∈(a.modify i f).map (·.born):=OO j;rw[e]at this;obtain⟨y,hy,c⟩:=FM.1 this;rw[<-c];exact h.1 y hy
def ZO.erase(h:ZO i6 j)(i:Nat):ZO (i6.eraseIdx i) j:=
 ⟨λx a=>h.1 x ((su i6 i).mem a),List.Nodup.sublist ((su i6 i).map _) h.2⟩
def xF(K:kZ H)(E:JL Z)(A:Option Nat)(m:Option (List (H×List Z))):ah where
 gs:=A.toList
 p _:=True
 loc _ _ _ h:=h
 q h z:=match A,m with
  |none,none=>True|some g,some m=>∃es clock,h g=some (.map es clock)/\nY K E z m es.toList/\ZO es.toList clock|_,_=>False
 ai m m' z z' hm hz h:=by
  rename_i mm;cases A with
  |none=>
   cases mm with
   |none=>exact h|some x=>exact h
  |some g=>
   cases mm with
   |none=>exact h|some x=>
    obtain⟨es,cl,h1,h2,h3⟩:=h;exact⟨es,cl,(hm g (by simp)).symm.trans h1,h2.mono hz,h3⟩
variable{b6:Option (List (H×List Z))}{b1:kZ H}
def xF.get(b:(xF b1 b0 m b6).q d5 f6):(m=none/\b6=none)\/∃g l a c,m=some g/\b6=some l/\d5 g=some (.map a c)/\nY b1 b0 f6 l a.toList:=by
 cases m with
 |none=>
  cases b6 with
  |none=>exact .inl ⟨O,O⟩|some x=>exact False.elim b
 |some g=>
  cases b6 with
  |none=>exact False.elim b|some x=>
   obtain⟨a,c,d,e,_⟩:=b;exact .inr ⟨g,x,a,c,O,O,d,e⟩
variable{g9:Array MapEntry}
def xF.J8(b:(xF b1 b0 (some j) b6).q d5 f6)(c:d5 j=some (.map g9 D)):ZO g9.toList D:=by
 cases b6 with
 |none=>exact False.elim b|some x=>
  obtain⟨d,e,a,_,f⟩:=b;rw[c]at a;injection a with a;injection a with g h;subst g;subst h;exact f
def J9{l y:Type}(K:kZ l)(E:JL y){d:TypeDesc}(B:TD.of d=K.td)(k:l)(z:Hp):∀(m:List (l×List y)) (f:List MapEntry) (n:Nat),nY K E z m f->
  (tO K.eq m k=none/\Instr.findNow d (K.v k) f n=some none/\(∀v,iH K.eq m k v=m++[(k,v)])/\Ai K.eq m k=m)\/
  ∃i b e,tO K.eq m k=some b/\Instr.findNow d (K.v k) f n=some (some (n+i,e.val))/\f[i]?=some e/\Instr.sameBits 10000 e.key (K.v k)=true/\(∃A c,e.val=.slice A b.length c/\NG E A c b z)/\
   (∀v u,(∃A c,u=.slice A v.length c/\NG E A c v z)->nY K E z (iH K.eq m k v) (f.modify i λe=>{e with key:=K.v k,val:=u}))/\nY K E z (Ai K.eq m k) (f.eraseIdx i)
 |[],[],n,h=>.inl ⟨O,O,λ_=>rfl,O⟩|[],_::_,_,h=>h.elim|_::_,[],_,h=>h.elim|x::m,e::f,n,h=>by
  obtain⟨g,o,p⟩:=h;have j:=K.same d k x.1 B;cases a:K.eq k x.1
  ·rw[a]at j
   rcases J9 K E B k z m f (n+1) p with⟨q,r,s,t⟩|⟨i,b,C,q,r,s,t,D,F,G⟩
   ·exact .inl ⟨by simp[tO,a,q],by simp[Instr.findNow,g,j,r],λv=>by simp[iH,a,s],by simp[Ai,a,t]⟩
   ·refine .inr ⟨i+1,b,C,by simp[tO,a,q],by simp[Instr.findNow,g,j,r];omega,by simpa using s,t,D,λv u w=>?_,?_⟩
    ·have:=F v u w
     simp only[iH,a,BB,rq];exact⟨g,o,this⟩
    ·simp only[Ai,a,BB,List.eraseIdx_cons_succ]
     exact⟨g,o,G⟩
  ·rw[a]at j
   refine .inr ⟨0,x.2,e,by simp[tO,a],by simp[Instr.findNow,g,j],O,by rw[g];exact K.stay _ _ a,o,λv u w=>?_,?_⟩
   ·simp only[iH,a,BD,ru]
    exact⟨O,w,p⟩
   ·simp only[Ai,a,BD,List.eraseIdx_cons_zero]
    exact p
def Sat.Aj(h:Sat F w)(K:kZ H)(E:JL Z):Sat (.res (xF K E none none)::F) w:=
 h.KA (Ext.refl w) (xF K E none none) (by simp[xF]) (λk a=>by simp[xF]at a) trivial trivial
def dN{t:Nat}{d:TypeDesc}(e:Bool)(k:H)(w:World)(a:P.underlying t=some d)(b:TD.of d=b1.td):(Instr.checkKey e 10000 t (b1.v k)).run P w=.ok () w:=b1.plain P t d e k w a b
section
variable[T:GZ P]
def St.dm{K:kZ H}{E:JL Z}{t:Nat}(f:Nat.blt D j=true)(k:∀g,St w j ((D,.map (some g))::B) (.res (xF K E (some g) (some []))::F) (wpList P J Q L)):St w j B F (wpList P J Q (⟨some D,.makeMap t none,I,U,V,none⟩::L)):=
 λa b d c h i l=>GN O λo m=>by
  unfold Oper.wp
  have n:(execOp a.eval ⟨some D,.makeMap t none,I,U,V,none⟩).run P b=.ok (.value (.map (some b.heap.size))) (b.alloc (.map #[] 0)):=by simp[execOp,zMY]
  rw[n];refine m _ _ (k _ _ _ (by simp[Act.put,d]) c (h.put (d▸EU f)) (i.KA (Ext.alloc b _) _ (by simp[xF]) (λk e=>by simp[xF]at e;subst e;simp) trivial ⟨_,_,jH b _,trivial,ZO.nil _⟩) (l.trans (Ext.alloc b _).toSame))
def St.zf{K:kZ H}{E:JL Z}{t:Nat}{d:Bool}(k:H)(hd:Nat.blt D j=true)(G:ev B o=some (.map m))(hy:ev B x=some (K.v k))(hm:As.res (xF K E m b6)∈F)(hi:xG T.tt t=some N)(l:N.desc=.map W y)(hj:xG T.tt W=some i)(n:i.desc=K.td)(hl:xG T.tt y=some e8)(hz:e8.zero=.slice none 0 0)(c:∀f c,St w j ((D,if d then .tuple #[.slice f ((tO K.eq (b6.getD []) k).getD []).length c,.bool (tO K.eq (b6.getD []) k).isSome]else .slice f ((tO K.eq (b6.getD []) k).getD []).length c)::B) (.ro (Sl E f c ((tO K.eq (b6.getD []) k).getD []))::F) (wpList P J Q L)):St w j B F (wpList P J Q (⟨some D,.lookup t o x d,I,U,V,none⟩::L)):=
 λa h hs M q hf hw=>GN O λK' hK=>by
  obtain⟨d1,r,R⟩:=T.ok.desc hi;obtain⟨d2,e,s⟩:=T.ok.desc hj;have h1:=TD.of_map (R.trans l);subst h1;have u:=tY T.ok hl h
  have go:∃f c,(execOp a.eval ⟨some D,.lookup t o x d,I,U,V,none⟩).run P h=.ok (.value (if d then .tuple #[.slice f ((tO K.eq (b6.getD []) k).getD []).length c,.bool (tO K.eq (b6.getD []) k).isSome]else .slice f ((tO K.eq (b6.getD []) k).getD []).length c)) h/\(Sl E f c ((tO K.eq (b6.getD []) k).getD [])).p (KO (yU F) h):=by
   rcases xF.get (hf.PW hm)with⟨rfl,rfl⟩|⟨g,l',A,cl,rfl,rfl,ho,hE⟩
   ·have C:=dN true k h e (s.trans n)
    refine⟨none,0,?_,NG.none0 _⟩;cases d<;>simp[execOp,q.eval G,q.eval hy,Instr.lookup,CY r,C,Instr.findKey,Instr.findNow,CY e,u,hz,tO]
   ·have S:h.heap[g]?=some (.map A cl):=ho
    have hg:(getObj g).run P h=.ok (.map A cl) h:=cL S;have C:=dN A.isEmpty k h e (s.trans n);rcases J9 K E (s.trans n) k _ l' A.toList 0 hE with⟨z,X,_⟩|⟨i',b,e',z,X,_,_,⟨f,c,g3,g4⟩,_⟩
    ·refine⟨none,0,?_,by simp only[GK,z,Option.getD_none];exact NG.none0 _⟩
     cases d<;>simp[execOp,q.eval G,q.eval hy,Instr.lookup,CY r,hg,C,Instr.findKey,CY e,X,u,hz,z]
    ·refine⟨f,c,?_,by simp only[GK,z];exact g4⟩
     cases d<;>simp[execOp,q.eval G,q.eval hy,Instr.lookup,CY r,hg,C,Instr.findKey,CY e,X,z,g3]
  obtain⟨f,cc,hr,Y⟩:=go;unfold Oper.wp;rw[hr];exact hK _ _ (c f cc _ h (by simp[Act.put,hs]) M (q.put (hs▸EU hd)) (hf.IW _ Y) hw)
def L6{P:Program}(c:w.heap[j]?=some (.map g9 D))(o:Obj):∃a,(setObj j o).run P w=.ok () a/\oM [j] w a/\hp a j=some o:=by
 have b:=(IX.1 c).1;refine⟨{w with heap:=w.heap.setIfInBounds j o},zKQ o c,⟨⟨O,O,O,by simp⟩,λi e d=>?_⟩,?_⟩
 ·simp only[FI]at d
  show(w.heap.setIfInBounds j o)[i]?=w.heap[i]?;rw[TQ (λh=>d h.symm)]
 ·show(w.heap.setIfInBounds j o)[j]?=some o
  simp[b]
def mapM(m:Option H):Option H:=m
def xF.turn{l c:List (H×List Z)}{d:World}(i:Sat (.res (xF b1 b0 (some j) (some l))::F) w)(a:oM [j] w d)(m:hp d j=some (.map g9 D))(hE:nY b1 b0 (KO (yU (.res (xF b1 b0 (some j) (some l))::F)) w) c g9.toList)(n:ZO g9.toList D):Sat (.res (xF b1 b0 (some j) (some c))::F) d:=by
 have e:j<w.heap.size:=i.lt (by simp[yU,As.gs,xF]);refine i.exchange a (by simp[xF]) (λk b=>?_) trivial ?_
 ·simp[xF]at b
  subst b;exact⟨GV e a.size,.inl (by simp[xF])⟩
 ·refine⟨g9,D,m,hE.mono ?_,n⟩
  intro k o b;unfold KO at*;split at b
  ·cases b
  ·rename_i f
   have g:k∉(xF b1 b0 (some j) (some c)).gs++yU F:=by simpa[yU,As.gs,xF]using f
   rw[AP g];have h:k∉[j]:=by simp[yU,As.gs,xF]at f;simp;exact f.1
   rw[a.block k (IX.1 b).1 h];exact b
def St.ku{E:Env}{K:kZ H}{t:Nat}{A B:Option _}{l:List (H×List Z)}(hl:mapM b6=some l)(k:H){v:List Z}(hx:ev E o=some (.map A))(hy:ev E x=some (K.v k))(hz:ev E i4=some (.slice B y f))(hn:y=v.length)(hD:Del F (.res (xF K b0 A b6)) G)(hv:As.ro (Sl b0 B f v)∈F)(hi:xG T.tt t=some N)(s:N.desc=.map I W)(hj:xG T.tt I=some i)(M:i.desc=K.td)(c:St w j E (.res (xF K b0 A (some (iH K.eq l k v)))::G) (wpList P J Q L)):St w j E F (wpList P J Q (⟨none,.mapUpdate t o x i4,D,U,V,none⟩::L)):=
 λa d hs hdf u hf hw=>GN O λK' hK=>by
  unfold mapM at hl;subst hl;subst hn;have m:=hf.front hD;have R:NG b0 B f v (KO (yU (.res (xF K b0 A (some l))::G)) d):=m.ro (r:=Sl b0 B f v) (hD.perm.mem_iff.1 hv);rcases xF.get (m.PW (DZ ..))with⟨_,h⟩|⟨g,l',n,S,rfl,h,ho,hE⟩
  ·cases h
  injection h with h;subst h;obtain⟨d1,X,hd1⟩:=T.ok.desc hi;obtain⟨d2,z,Y⟩:=T.ok.desc hj;have h1:=TD.of_map (hd1.trans s);subst h1;have h2:=dN false k d z (Y.trans M);have C:d.heap[g]?=some (.map n S):=ho;have hst:=xF.J8 (m.PW (DZ ..)) ho;have hg:(getObj g).run P d=.ok (.map n S) d:=cL C
  have go:∃p,(execOp a.eval ⟨none,.mapUpdate t o x i4,D,U,V,none⟩).run P d=.ok .skip p/\oM [g] d p/\Sat (.res (xF K b0 (some g) (some (iH K.eq l k v)))::G) p:=by
   rcases J9 K b0 (Y.trans M) k _ l n.toList 0 hE with⟨g1,g2,g3,_⟩|⟨i',b,e0,g1,g2,g3,g4,_,g6,_⟩
   ·obtain⟨p,hr,e,hh⟩:=L6 (P:=P) C (.map (n.push ⟨K.v k,.slice B v.length f,S⟩) (S+1))
    refine⟨p,?_,e,xF.turn m e hh ?_ (by rw[Array.toList_push];exact hst.push _ _)⟩
    ·simp[execOp,u.eval hx,u.eval hy,u.eval hz,Instr.mapUpdate,CY X,hg,h2,Instr.findKey,CY z,g2,hr]
    ·rw[g3,Array.toList_push]
     exact hE.snoc O ⟨B,f,O,R⟩
   ·have q:(n.modify i' λW=>{W with key:=K.v k,val:=.slice B v.length f}).toList=n.toList.modify i' λW=>{W with key:=K.v k,val:=.slice B v.length f}:=ve
    obtain⟨p,hr,e,hh⟩:=L6 (P:=P) C (.map (n.modify i' λW=>{W with key:=K.v k,val:=.slice B v.length f}) S);refine⟨p,?_,e,xF.turn m e hh ?_ (by rw[q];exact hst.modify (f:=λW=>{W with key:=K.v k,val:=.slice B v.length f}) (λ_=>O) _)⟩
    ·have he1:n[i']?=some e0:=by simpa using g3
     simp only[KE]at g2;simp[execOp,u.eval hx,u.eval hy,u.eval hz,Instr.mapUpdate,CY X,hg,h2,Instr.findKey,CY z,g2,he1,Instr.keyThatStays,g4,hr]
    ·rw[q]
     exact g6 v _ ⟨B,f,O,R⟩
  obtain⟨p,hrun,e,OX⟩:=go;unfold Oper.wp;rw[hrun];exact hK _ _ (c _ _ (by simpa[Act.put]using hs) hdf (u.PV) OX (hw.trans e.toSame))
def St.dn{K:kZ H}{t:Nat}(k:H)(hx:ev B o=some (.map m))(hy:ev B x=some (K.v k))(hD:Del F (.res (xF K b0 m b6)) G)(q:b7[0]?=some t)(hi:xG T.tt t=some N)(r:N.desc=.map I W)(hj:xG T.tt I=some i)(s:i.desc=K.td)(c:St w j B (.res (xF K b0 m (b6.map λl=>Ai K.eq l k))::G) (wpList P J Q L)):St w j B F (wpList P J Q (⟨none,.call {callee:=.builtin .delete,args:=#[o,x],argTypes:=b7},D,U,V,none⟩::L)):=
 λa d hs hdf u hf hw=>GN O λK' hK=>by
  have e:=hf.front hD;obtain⟨d1,y,hd1⟩:=T.ok.desc hi;obtain⟨d2,n,z⟩:=T.ok.desc hj;have h1:=TD.of_map (hd1.trans r);subst h1
  have go:∃p,(execOp a.eval ⟨none,.call {callee:=.builtin .delete,args:=#[o,x],argTypes:=b7},D,U,V,none⟩).run P d=.ok (.value (.tuple #[])) p/\Same d p/\Sat (.res (xF K b0 m (b6.map λl=>Ai K.eq l k))::G) p:=by
   rcases xF.get (e.PW (DZ ..))with⟨rfl,rfl⟩|⟨g,l',f,X,rfl,rfl,ho,hE⟩
   ·have Y:=dN true k d n (z.trans s)
    refine⟨d,?_,Same.refl d,e⟩;simp[execOp,resolve,invoke,u.eval hx,u.eval hy,builtin,Builtin.delete_,q,CY y,Y]
   ·have A:d.heap[g]?=some (.map f X):=ho
    have hg:(getObj g).run P d=.ok (.map f X) d:=cL A;have Y:=dN f.isEmpty k d n (z.trans s);have M:=xF.J8 (e.PW (DZ ..)) ho;rcases J9 K b0 (z.trans s) k _ l' f.toList 0 hE with⟨g1,Z,g3,g4⟩|⟨E,b,e0,g1,Z,g3,_,_,_,g7⟩
    ·obtain⟨p,hr,h,hh⟩:=L6 (P:=P) A (.map f X)
     refine⟨p,?_,h.toSame,xF.turn e h hh (by show nY K b0 _ (Ai K.eq l' k) _;rw[g4];exact hE) M⟩;simp[execOp,resolve,invoke,u.eval hx,u.eval hy,builtin,Builtin.delete_,q,CY y,Y,hg,Instr.findKey,CY n,Z,hr]
    ·obtain⟨p,hr,h,hh⟩:=L6 (P:=P) A (.map (f.eraseIdxIfInBounds E) X)
     have R:E<f.size:=by have:=(FT.1 g3).1;simpa using this
     have hel:(f.eraseIdxIfInBounds E).toList=f.toList.eraseIdx E:=by unfold Array.eraseIdxIfInBounds;rw[dif_pos R,tq]
     refine⟨p,?_,h.toSame,xF.turn e h hh ?_ (by rw[hel];exact M.erase _)⟩
     ·simp only[KE]at Z
      simp[execOp,resolve,invoke,u.eval hx,u.eval hy,builtin,Builtin.delete_,q,CY y,Y,hg,Instr.findKey,CY n,Z,hr]
     ·have:(f.eraseIdxIfInBounds E).toList=f.toList.eraseIdx E:=by unfold Array.eraseIdxIfInBounds;rw[dif_pos R,tq]
      rw[this];exact g7
  obtain⟨p,S,C,OX⟩:=go;unfold Oper.wp;rw[S];exact hK _ _ (c _ _ (by simpa[Act.put]using hs) hdf u.PV OX (hw.trans C))
def St.ZJ{K:kZ H}{E:JL Z}{t:Nat}(u:Nat.blt D j=true)(n:ev B o=some (.map m))(v:As.res (xF K E m b6)∈F)(e:b7[0]?=some t)(x:xG T.tt t=some N)(d:N.desc=.map W y)(c:St w j ((D,.int .i64 (((b6.getD []).length:Nat):Int))::B) F (wpList P J Q L)):St w j B F (wpList P J Q (⟨some D,.call {callee:=.builtin .len,args:=#[o],argTypes:=b7},I,U,V,none⟩::L)):=
 λa b p h i q z=>GN O λS A=>by
  obtain⟨X,f,k⟩:=T.ok.desc x;have C:=TD.of_map (k.trans d);subst C
  have G:(execOp a.eval ⟨some D,.call {callee:=.builtin .len,args:=#[o],argTypes:=b7},I,U,V,none⟩).run P b=.ok (.value (.int .i64 (((b6.getD []).length:Nat):Int))) b:=by
   rcases xF.get (q.PW v)with⟨rfl,rfl⟩|⟨g,Y,r,s,rfl,rfl,M,hE⟩
   ·simp[execOp,resolve,invoke,i.eval n,builtin,Builtin.len_,e,CY f,goInt]
   ·have l:b.heap[g]?=some (.map r s):=M
    have R:(getObj g).run P b=.ok (.map r s) b:=cL l;have:=hE.len;simp[execOp,resolve,invoke,i.eval n,builtin,Builtin.len_,e,CY f,R,goInt];simpa using congrArg Int.ofNat this
  unfold Oper.wp;rw[G];exact A _ _ (c _ b (by simp[Act.put,p]) h (i.put (p▸EU u)) q z)
end
def xF.new{l:List (H×List Z)}(e:Sat (.res (xF b1 b0 (some j) (some l))::F) w)(h:w.heap[j]?=some (.map g9 D))(hE:nY b1 b0 (KO (yU (.res (xF b1 b0 (some j) (some l))::F)) w) l g9.toList)(f:ZO g9.toList D):Sat (.res (xF b1 b0 (some w.heap.size) (some l))::.res (xF b1 b0 (some j) (some l))::F) (w.alloc (.map g9 D)):=by
 refine e.KA (Ext.alloc w _) _ (by simp[xF]) (λk a=>by simp[xF]at a;subst a;simp) trivial ⟨g9,D,jH w _,hE.mono ?_,f⟩;intro k o a;unfold KO at*;split at a
 ·cases a
 ·rename_i g
  have c:=(IX.1 a).1
  have d:k∉(xF b1 b0 (some w.heap.size) (some l)).gs++yU (.res (xF b1 b0 (some j) (some l))::F):=by
   intro b;rcases DW.1 b with b|b
   ·simp[xF]at b;omega
   ·exact g b
  rw[AP d,(Ext.alloc w _).block k c];exact a
def zWe{h:Shelf.Ren}(L:SlLaysW.n5 P h)(K:kZ H)(E:JL Z)(A:Option Nat)(m:Option (List (H×List Z))):CW P (h.f 5) [.map A] [.res (xF K E A m)] (λv n=>∃B,v=.map B/\n=[.res (xF K E B m),.res (xF K E A m)]):=by
 intro w R o;have b:Sat (.res (xF K E A m)::R) w:=o;rcases xF.get (b.PW (DZ ..))with⟨rfl,rfl⟩|⟨g,l,i,j,rfl,rfl,k,hE⟩
 ·refine(AnyW.maps_Clone_nil L w).mono λe p ⟨c,d⟩=>?_
  subst c;subst d;exact⟨_,_,O,⟨none,O,O⟩,b.Aj K E,Same.refl _⟩
 ·have a:w.heap[g]?=some (.map i j):=k
  refine(AnyW.maps_Clone L g i j w a).mono λe p ⟨c,d⟩=>?_
  subst c;subst d;exact⟨_,_,O,⟨some w.heap.size,O,O⟩,xF.new b a hE (xF.J8 (b.PW (DZ ..)) k),(Ext.alloc w _).toSame⟩
def zYb:Shelf.Ren:=⟨λx=>if x=5 then 189 else if x=7 then 235 else x,λx=>if x=3 then 22 else if x=4 then 4 else if x=20 then 20 else if x=23 then 90 else if x=25 then 5 else x,λx=>x⟩
def zWg:SlLaysW.n5 Tryz.prog zYb where
 mixed:=by kernel_rfl
 f5:=⟨Tryz.f189.name,by kernel_rfl,by kernel_rfl⟩
 f7:=by kernel_rfl
 t4:=by kernel_rfl
 a4:=λ_=>O
 z4:=λ_=>O
 v4:=λ_=>O
 t20:=by kernel_rfl
 a20:=λ_=>O
 z20:=λ_=>O
 v20:=λ_=>O
 t23:=by kernel_rfl
 a23:=λ_=>O
 z23:=λ_=>O
 v23:=λ_=>O
def zEA(a:Option (List (Int×List Int))):Option (Option (List (Int×List Int))):=some a
variable{i5:Option (List (Int×List Int))}
def zSd{r:Option (List (Int×List Int))}(h:zEA i5=some r):CW Tryz.prog 189 [.map m] [.res (xF (yW .u8) (DN BQ) m i5)] (λv a=>∃B,v=.map B/\a=[.res (xF (yW .u8) (DN BQ) m i5),.res (xF (yW .u8) (DN BQ) B r)]):=by
 injection h with h;subst h;intro w R b
 exact(zWe zWg (yW .u8) (DN BQ) m i5 w R b).mono λe j ⟨v,a,c,⟨B,d,f⟩,g,i⟩=>by subst f;exact⟨v,_,c,⟨B,d,O⟩,g.perm (YK ..),i⟩
section
variable[T:GZ P]
def Sat.shrink(h:Sat (.res (zJ c4 j A D (M++r))::F) w):Sat (.res (zJ c4 j A D M)::F) w:=by
 have l:fJ c4.sz j A (M++r).length D ((M++r).map c4.enc) (hp w):=h.res (r:=zJ c4 j A D (M++r)) (DZ ..);refine Sat.exchange (r:=zJ c4 j A D (M++r)) h (oM.VE (Ext.refl w)) (nD _ _) (λk f=>⟨h.lt (cT.2 ⟨_,DZ ..,f⟩),.inl f⟩) ?_;refine⟨by simp,Qv c4.len c4.one M,?_⟩;rcases l.2.2 with⟨i,c⟩|⟨g,a,fr,b,m,n,d,o,c,p,e⟩
 ·simp at i
  exact .inl ⟨by simp[i.1],c⟩
 ·refine .inr ⟨g,a,fr,b,m,n,d,by simp at o;omega,c,?_,e⟩
  have q:(M.map c4.enc).flatten.length=M.length*c4.sz:=zJc c4 M;have:(a.toList.take ((M++r).length*c4.sz)).take (M.length*c4.sz)=(((M++r).map c4.enc).flatten).take (M.length*c4.sz):=by rw[p]
  rw[List.take_take,NP (by simp[FU])]at this;rw[this,MC,XH,<-q,OU]
def St.NI{E:Enc H}{t:Nat}(hz:Go.Proofs.YtjconpohbhlcmaaGreatDoor.app c9 M r=some b9)(hd:Nat.blt D j=true)(hs:ev B o=some (.slice A b8 a6))(hx:ev B x=some h)(hD:Del F (.res (zJ E y A a6 M)) G)(s:b8=M.length)(hi:xG T.tt t=some N)(b:N.desc=.slice y)(hj:xG T.tt y=some e8)(hsz:e8.size=E.sz)(hby:e8.bytes=c9)(hzs:Nat.beq (zc e8.zero).length E.sz=true)(hm:f=r.length)(u:∀g,Sat F g->ZN P E.sz h f (r.map E.enc).flatten g)(hi2:xG T.tt W=some i)(hd2:Lj i.desc=true)(k1:St w j ((D,.slice A b9.length a6)::B) (.res (zJ E y A a6 b9)::G) (wpList P J Q L))(k2:∀d e,St w j ((D,.slice d b9.length e)::B) (.res (zJ E y d e b9)::.res (zJ E y A a6 M)::G) (wpList P J Q L)):St w j B F (wpList P J Q (⟨some D,.call {callee:=.builtin .append,args:=#[o,x],argTypes:=#[t,W]},I,U,V,none⟩::L)):=by
 obtain⟨rfl,hb2,hb3⟩:=F7 hz;subst s;subst hm;subst hby;intro a g l v ha hf hw;refine GN O λK hK=>?_
 obtain⟨dd,hu,z⟩:=T.ok.desc hi;obtain⟨d2,hu2,Ll⟩:=T.ok.desc hi2;have C:=(T.ok.get hj).2.1;cases m:P.info? y with
 |none=>simp[m]at C|some info=>
  simp[m]at C;have hzz:e8.zero.cells.size=E.sz:=by rw[<-aU];simpa using Nat.eq_of_beq_eq_true hzs
  have R:=hf.front hD;have hO:fJ E.sz y A M.length a6 (M.map E.enc) (hp g):=hf.UW hD;obtain⟨d,e,w',hr,n,S,X,q⟩:=zJl (P:=P) (ty:=I) (TD.of_slice (z.trans b)▸hu) m (C.1.trans hsz) C.2.1 C.2.2 hzz hO rfl (u g hf) (by simpa[maxLen]using hb3) hb2 (r.map E.enc) O (by simp) (Qv E.len E.one r);unfold Oper.wp
  have hr2:(execOp a.eval ⟨some D,.call {callee:=.builtin .append,args:=#[o,x],argTypes:=#[t,W]},I,U,V,none⟩).run P g=.ok (.value (.slice d (M.length+r.length) e)) w':=by simp[execOp,resolve,invoke,builtin,ha.eval hs,ha.eval hx,zNe (P:=P) (TD.of_slice (z.trans b)▸hu) hu2 (Ll▸hd2),hr]
  rw[hr2]
  have c:(zJ E y d e (M++r)).p (hp w'):=by show fJ E.sz y d (M++r).length e ((M++r).map E.enc) (hp w');simpa using S
  have hl:(Value.slice d (M.length+r.length) e)=.slice d (M++r).length e:=by simp
  rw[hl];rcases q with⟨rfl,rfl⟩|⟨Y,Z⟩
  ·exact hK _ _ (k1 _ _ (by simp[Act.put,l]) v (ha.put (l▸EU hd)) (R.exchange n (nD _ _) X c) (hw.trans n.toSame))
  ·exact hK _ _ (k2 d e _ _ (by simp[Act.put,l]) v (ha.put (l▸EU hd)) (R.KA Y _ (nD _ _) (λk hk=>⟨Z k hk,(X k hk).1⟩) c) (hw.trans n.toSame))
end
section
open Go.ChangeMaps (setBlock)
def qX(K:kZ H)(E:JL Z)(A:Option Nat)(m:Option (List (H×List Z)))(it:Nat)(done:List H):ah where
 gs:=it::A.toList
 p _:=True
 loc _ _ _ h:=h
 q h z:=match A,m with
  |none,none=>h it=some (.mapIter none 0 #[] 0)/\done=[]|some g,some m=>∃(es:Array MapEntry) (cl:Nat) (ds:List MapEntry),h g=some (.map es cl)/\nY K E z m es.toList/\ZO es.toList cl/\h it=some (.mapIter (some g) cl (ds.map (·.born)).toArray cl)/\(∀x∈ds,x∈es.toList)/\(ds.map (·.born)).Nodup/\done.map K.v=ds.map (·.key)|_,_=>False
 ai a a' z z' hm hz h:=by
  cases A with
  |none=>
   cases m with
   |none=>exact⟨(hm it (by simp)).symm.trans h.1,h.2⟩|some x=>exact h
  |some g=>
   cases m with
   |none=>exact h|some x=>
    obtain⟨es,cl,ds,h1,h2,h3,h4,h5⟩:=h;exact⟨es,cl,ds,(hm g (by simp)).symm.trans h1,h2.mono hz,h3,(hm it (by simp)).symm.trans h4,h5⟩
def qX.get(d:(qX b1 b0 m b6 j M).q d5 f6):(m=none/\b6=none/\d5 j=some (.mapIter none 0 #[] 0)/\M=[])\/∃(g:Nat) (l:List (H×List Z)) (a:Array MapEntry) (b:Nat) (c:List MapEntry),m=some g/\b6=some l/\d5 g=some (.map a b)/\nY b1 b0 f6 l a.toList/\ZO a.toList b/\d5 j=some (.mapIter (some g) b (c.map (·.born)).toArray b)/\(∀x∈c,x∈a.toList)/\(c.map (·.born)).Nodup/\M.map b1.v=c.map (·.key):=by
 cases m with
 |none=>
  cases b6 with
  |none=>exact .inl ⟨O,O,d⟩|some x=>exact False.elim d
 |some g=>
  cases b6 with
  |none=>exact False.elim d|some x=>
   obtain⟨a,b,c,e⟩:=d;exact .inr ⟨g,x,a,b,c,O,O,e⟩
def nY.keys{b c:Type}{K:kZ b}{E:JL c}{z:Hp}:∀{m:List (b×List c)} {a:List MapEntry},nY K E z m a->a.map (·.key)=m.map λx=>K.v x.1
 |[],[],_=>rfl|x::m,e::a,h=>by simp only[GY];rw[h.1,nY.keys h.2.2]|[],_::_,h=>h.elim|_::_,[],h=>h.elim
def nY.Wl{c d:Type}{K:kZ c}{E:JL d}{z:Hp}{e:MapEntry}:∀{m:List (c×List d)} {b:List MapEntry},nY K E z m b->e∈b->∃k,e.key=K.v k/\∃v,(k,v)∈m
 |x::m,y::b,h,a=>by
  rcases EC.1 a with rfl|a
  ·exact⟨x.1,h.1,x.2,by simp⟩
  ·obtain⟨k,f,v,g⟩:=nY.Wl h.2.2 a
   exact⟨k,f,v,by simp[g]⟩
 |[],[],_,a=>by cases a|[],_::_,h,_=>h.elim|_::_,[],h,_=>h.elim
def zKy(d:(i6.map (·.born)).Nodup){x y:MapEntry}(f:x∈i6)(hy:y∈i6)(h:x.born=y.born):x=y:=by
 induction i6 with
 |nil=>cases f|cons e r g=>
  rw[GY]at d;have c:=KT.1 d;rcases EC.1 f with b|b
  ·rcases EC.1 hy with a|a
   ·rw[b,a]
   ·exact absurd (show e.born∈r.map (·.born)from FM.2 ⟨y,a,by rw[<-b,h]⟩) c.1
  ·rcases EC.1 hy with a|a
   ·exact absurd (show e.born∈r.map (·.born)from FM.2 ⟨x,b,by rw[<-a,h]⟩) c.1
   ·exact g c.2 b a
def zNG:∀{l m:List Nat},l.Nodup->(∀x∈l,x∈m)->l.length<=m.length
 |[],_,_,_=>KJ _|x::l,m,h,c=>by
  have d:=KT.1 h;have f:=c x (by simp);have:=zNG (m:=m.erase x) d.2 λy hy=>(List.mem_erase_of_ne (a:=y) (b:=x) (λe=>d.1 (by rw[<-e];exact hy))).2 (c y (by simp[hy]))
  rw[List.length_erase_of_mem f]at this;have:=qx f;simp only[EP];omega
def zGM{f:H->Z}(h:(M.map f).Nodup):M.Nodup:=by
 induction M with
 |nil=>exact UL|cons x r b=>
  rw[GY]at h;have a:=KT.1 h;exact KT.2 ⟨λc=>a.1 (OO c),b a.2⟩
section
variable[T:GZ P]
def St.Nb{t:Nat}(S:Nat.blt D j=true)(u:ev B o=some (.map m))(X:Del F (.res (xF b1 b0 m b6)) G)(Y:xG T.tt t=some N)(h:N.desc=.map W y)(c:∀H,St w j ((D,.pointer (some ⟨H,0,none⟩))::B) (.res (qX b1 b0 m b6 H [])::G) (wpList P J Q L)):St w j B F (wpList P J Q (⟨some D,.range t o,I,U,V,none⟩::L)):=
 λa f K v x Z hw=>GN O λK' hK=>by
  have e:=Z.front X;obtain⟨d1,n,z⟩:=T.ok.desc Y;have h1:=TD.of_map (z.trans h);subst h1
  have go:∃b:Obj,(execOp a.eval ⟨some D,.range t o,I,U,V,none⟩).run P f=.ok (.value (.pointer (some ⟨f.heap.size,0,none⟩))) (f.alloc b)/\Sat (.res (qX b1 b0 m b6 f.heap.size [])::G) (f.alloc b):=by
   have hb:=e.nodup;rcases xF.get (e.PW (DZ ..))with⟨rfl,rfl⟩|⟨g,l,A,p,rfl,rfl,M,hE⟩
   ·refine⟨.mapIter none 0 #[] 0,?_,?_⟩
    ·simp[execOp,x.eval u,run_range_nilMap f t W y n]
    ·refine e.exchange (r':=qX b1 b0 none none f.heap.size []) ⟨(Ext.alloc f _).toSame,λk d _=>(Ext.alloc f _).block k d⟩ (by simp[qX]) (λk d=>?_) trivial ⟨jH f _,O⟩
     simp[qX]at d;subst d;exact⟨by simp,.inr (FN _)⟩
   ·have q:f.heap[g]?=some (.map A p):=M
    have C:g<f.heap.size:=e.lt (by simp[yU,As.gs,xF]);have E:=xF.J8 (e.PW (DZ ..)) M;refine⟨.mapIter (some g) p #[] p,?_,?_⟩
    ·simp[execOp,x.eval u,run_range_map f t W y g A p n q]
    ·refine e.exchange (r':=qX b1 b0 (some g) (some l) f.heap.size []) ⟨(Ext.alloc f _).toSame,λk d _=>(Ext.alloc f _).block k d⟩ (by simp[qX];omega) (λk d=>?_) trivial ?_
     ·simp[qX]at d
      rcases d with rfl|rfl
      ·exact⟨by simp,.inr (FN _)⟩
      ·exact⟨by simp;omega,.inl (by simp[xF])⟩
     ·refine⟨A,p,[],((Ext.alloc f _).block g C).trans q,hE.mono ?_,E,jH f _,(λo u=>by cases u),UL,rfl⟩
      intro k b d;unfold KO at*;split at d
      ·cases d
      ·rename_i R
       have r:=(IX.1 d).1
       rw[AP (λi=>by
        rcases DW.1 i with i|i
        ·simp[qX]at i
         rcases i with rfl|rfl
         ·omega
         ·exact R (by simp[yU,As.gs,xF])
        ·exact R (by simp[yU,i])),(Ext.alloc f _).block k r]
       exact d
  obtain⟨b,s,OX⟩:=go;unfold Oper.wp;rw[s];exact hK _ _ (c _ _ _ (by simp[Act.put,K]) v (x.put (K▸EU S)) OX (hw.trans (Ext.alloc f _).toSame))
def nU(m:Option (List (H×List Z))):List H:=(m.getD []).map (·.1)
def St.Wn(hd:Nat.blt D j=true)(hx:ev B o=some (.pointer (some ⟨W,0,none⟩)))(hD:Del F (.res (qX b1 b0 m b6 W M)) G)(c0:(M.map b1.v).Perm ((nU b6).map b1.v)->St w j ((D,.tuple #[.bool false])::B) (.res (qX b1 b0 m b6 W M)::G) (wpList P J Q L))(c1:∀k v,M.length<(nU b6).length->St w j ((D,.tuple #[.bool true,b1.v k,v])::B) (.res (qX b1 b0 m b6 W (M++[k]))::G) (wpList P J Q L)):St w j B F (wpList P J Q (⟨some D,.next o false,I,U,V,none⟩::L)):=
 λa c Y H Z hf hw=>GN O λK' hK=>by
  have n:=hf.front hD;unfold Oper.wp;rcases qX.get (n.PW (DZ ..))with⟨rfl,rfl,K,rfl⟩|⟨g,l,C,r,u,rfl,rfl,ho,hE,s,K,t,N,hk⟩
  ·have f:c.heap[W]?=some (.mapIter none 0 #[] 0):=K
   have hr:(execOp a.eval ⟨some D,.next o false,I,U,V,none⟩).run P c=.ok (.value (.tuple #[.bool false])) c:=by simp[execOp,Z.eval hx,Instr.next,getObj,Sem.run,f,Result.andThen]
   rw[hr];exact hK _ _ (c0 (by simp[nU]) _ c (by simp[Act.put,Y]) H (Z.put (Y▸EU hd)) n hw)
  ·have f:c.heap[W]?=some (.mapIter (some g) r (u.map (·.born)).toArray r):=K
   have R:c.heap[g]?=some (.map C r):=ho;have hne:W≠g:=λe=>by rw[e,R]at f;cases f
   have hlt:W<c.heap.size:=n.lt (by simp[yU,As.gs,qX]);have aCB:g<c.heap.size:=n.lt (by simp[yU,As.gs,qX]);have hdp:u.Nodup:=zGM N;have hep:C.toList.Nodup:=zGM s.2
   have hks:(nU (some l)).map b1.v=C.toList.map (·.key):=by rw[hE.keys];simp[nU,MH]
   rcases run_next_at (P:=P) c I W g r r (u.map (·.born)).toArray C r f R s.1 (FN _)with⟨h0,x⟩|⟨e,he,w1,hw1,x⟩
   ·have hr:(execOp a.eval ⟨some D,.next o false,I,U,V,none⟩).run P c=.ok (.value (.tuple #[.bool false])) c:=by simp[execOp,Z.eval hx,x]
    rw[hr];refine hK _ _ (c0 ?_ _ c (by simp[Act.put,Y]) H (Z.put (Y▸EU hd)) n hw);rw[hk,hks];refine List.Perm.map _ ((List.perm_ext_iff_of_nodup hdp hep).2 λy=>⟨t y,λhy=>?_⟩);have:=all_seen C _ h0 y hy;simp at this;obtain⟨z,hz,hzb⟩:=this;rw[<-zKy s.2 (t z hz) hy hzb];exact hz
   ·obtain⟨A,hes⟩:=mem_left he
    obtain⟨k,hek,v0,hkv⟩:=hE.Wl A
    have hr:(execOp a.eval ⟨some D,.next o false,I,U,V,none⟩).run P c=.ok (.value (.tuple #[.bool true,b1.v k,e.val])) (setBlock w1 W (.mapIter (some g) r ((u.map (·.born)).toArray.push e.born) r)):=by simp[execOp,Z.eval hx,x,hek]
    rw[hr]
    have E:e∉u:=λhed=>by
     have:(u.map (·.born)).toArray.contains e.born=true:=by simp;exact⟨e,hed,O⟩
     rw[this]at hes;cases hes
    have hlen:M.length<(nU (some l)).length:=by
     have e1:M.length=u.length:=by have:=congrArg List.length hk;simpa using this
     have e2:(nU (some l)).length=C.toList.length:=by have:=congrArg List.length hks;simpa using this
     have hnb:e.born∉u.map (·.born):=λh=>by obtain⟨y,hy,S⟩:=FM.1 h;exact E (zKy s.2 (t y hy) A S▸hy)
     have:=zNG (l:=e.born::u.map (·.born)) (m:=C.toList.map (·.born)) (KT.2 ⟨hnb,N⟩) λy hy=>by
      rcases EC.1 hy with rfl|hy
      ·exact OO A
      ·obtain⟨z,hz,rfl⟩:=FM.1 hy
       exact OO (t z hz)
     simp only[EP,FQ]at this;omega
    have hsz:w1.heap=c.heap:=by rcases hw1 with rfl|rfl<;>rfl
    have d:oM [W] c (setBlock w1 W (.mapIter (some g) r ((u.map (·.born)).toArray.push e.born) r)):=by
     refine⟨?_,λi hi T=>?_⟩
     ·rcases hw1 with rfl|rfl
      ·exact⟨O,O,O,by simp[setBlock]⟩
      ·exact⟨O,O,O,by show c.heap.size<=(c.heap.setIfInBounds W _).size;simp⟩
     ·simp only[FI]at T
      show(w1.heap.setIfInBounds W _)[i]?=c.heap[i]?;rw[hsz,TQ (λh=>T h.symm)]
    have hwr:oM (qX b1 b0 (some g) (some l) W M).gs c (setBlock w1 W (.mapIter (some g) r ((u.map (·.born)).toArray.push e.born) r)):=⟨d.toSame,λi hi T=>d.block i hi (λX=>T (by simp only[FI]at X;subst X;simp[qX]))⟩;refine hK _ _ (c1 k e.val hlen _ _ (by simp[Act.put,Y]) H (Z.put (Y▸EU hd)) ?_ (hw.trans d.toSame));refine n.exchange (r':=qX b1 b0 (some g) (some l) W (M++[k])) hwr (by simp[qX];exact hne) (λi hi=>?_) trivial ?_
    ·exact⟨GV (by simp[qX]at hi;rcases hi with rfl|rfl<;>assumption) d.size,.inl hi⟩
    ·refine⟨C,r,u++[e],(d.block g aCB (by simp;exactλh=>hne h.symm)).trans R,hE.mono ?_,s,?_,λy hy=>?_,?_,?_⟩
     ·intro i b Qo
      unfold KO at*;split at Qo
      ·cases Qo
      ·rename_i T
       have hlt2:=(IX.1 Qo).1;rw[AP (λX=>T (by simpa[yU,As.gs,qX]using X)),d.block i hlt2 (λX=>T (by simp only[FI]at X;subst X;simp[yU,As.gs,qX]))];exact Qo
     ·show(w1.heap.setIfInBounds W _)[W]?=_
      rw[hsz];simp[hlt]
     ·rcases DW.1 hy with hy|hy
      ·exact t y hy
      ·simp only[FI]at hy;subst hy;exact A
     ·rw[MC]
      refine LU.2 ⟨N,by simp,λp hp q hq=>?_⟩;simp only[GY,QE,FI]at hq;subst hq;intro h;subst h;obtain⟨y,hy,S⟩:=FM.1 hp;exact E (zKy s.2 (t y hy) A S▸hy)
     ·rw[MC,MC,hk,GY,QE,GY,QE,hek]
def St.Nc(G:Nat.blt D j=true)(H:ev B o=some (.pointer (some ⟨W,0,none⟩)))(K:As.res (qX b1 b0 m b6 W (M++[S]))∈F)(c:∀v,St w j ((D,.tuple #[b1.v S,v])::B) F (wpList P J Q L)):St w j B F (wpList P J Q (⟨some D,.entry o,I,U,V,none⟩::L)):=
 λa b z p A C N=>GN O λZ R=>by
  unfold Oper.wp;rcases qX.get (C.PW K)with⟨rfl,rfl,i,h⟩|⟨g,l,E,f,q,rfl,rfl,T,hE,r,i,s,X,t⟩
  ·simp at h
  ·have k:b.heap[W]?=some (.mapIter (some g) f (q.map (·.born)).toArray f):=i
   have u:b.heap[g]?=some (.map E f):=T
   have x:∃d e,q=d++[e]/\e.key=b1.v S:=by
    rcases List.eq_nil_or_concat q with rfl|⟨d,e,rfl⟩
    ·simp at t
    ·refine⟨d,e,by simp,?_⟩
     simp only[MC,GY,QE,List.concat_eq_append]at t;exact(List.append_inj' t O).2|>λh=>by simpa using h.symm
   obtain⟨d,e,rfl,y⟩:=x
   have n:b.heap[W]?=some (.mapIter (some g) f ((d.map (·.born)).toArray.push e.born) f):=by rw[k];simp
   have Y:(execOp a.eval ⟨some D,.entry o,I,U,V,none⟩).run P b=.ok (.value (.tuple #[b1.v S,e.val])) b:=by have:=run_entry_at (P:=P) b W g f (d.map (·.born)).toArray E f e n u (s e (by simp)) r.2;simp[execOp,A.eval H,this,y]
   rw[Y];exact R _ _ (c _ _ b (by simp[Act.put,z]) p (A.put (z▸EU G)) C N)
def Sat.itV(h:Sat (.res (qX b1 b0 m b6 j M)::F) w):Sat (.res (xF b1 b0 m b6)::F) w:=by
 refine h.exchange (r':=xF b1 b0 m b6) ⟨Same.refl w,λ_ _ _=>O⟩ (by cases m<;>simp[xF]) (λk a=>⟨h.lt ?_,.inl ?_⟩) trivial ?_
 ·simp only[xF]at a
  simp[yU,As.gs,qX];cases m with
  |none=>simp at a|some g=>simp at a;subst a;simp
 ·simp only[xF]at a
  simp only[qX];exact EX _ a
 ·rcases qX.get (h.PW (DZ ..))with⟨rfl,rfl,_⟩|⟨g,l,c,d,f,rfl,rfl,e,hE,b,_⟩
  ·trivial
  ·refine⟨c,d,e,hE.mono (Um w λk a=>?_),b⟩
   rcases DW.1 a with a|a
   ·simp[xF]at a;subst a;simp[yU,As.gs,qX]
   ·simp[yU,a]
end
end
def Gg:Result Next->Prop
 |.ok (.value _) _=>True|.ok .skip _=>True|.halt _ _=>True|_=>False
def aM(o:Oper):Prop:=(o.guard=none/\∀c,o.op≠.defer c)/\∀(P:Program) (ev:Operand->Value) (w:World),Gg ((execOp ev o).run P w)
def zTH(x:Sem Value):Gg ((do pure (Next.value (<-x)):Sem Next).run P w):=by
 rw[EJ];cases x.run P w with
 |ok v a=>simp[Result.andThen,Gg]|halt h a=>simp[Result.andThen,Gg]
def yAs(x:Sem Unit):Gg ((do x;pure Next.skip:Sem Next).run P w):=by
 rw[EJ];cases x.run P w with
 |ok v a=>simp[Result.andThen,Gg]|halt h a=>simp[Result.andThen,Gg]
def zSQ{d a pos b x}:aM ⟨some d,.move x,a,pos,b,none⟩:=⟨⟨O,λc h=>by cases h⟩,λP ev w=>by simp[execOp,Gg]⟩
def zGN{d a pos b x}:aM ⟨some d,.assign x,a,pos,b,none⟩:=⟨⟨O,λc h=>by cases h⟩,λP ev w=>by simp[execOp,Gg]⟩
def zLC{d a pos b t x}:aM ⟨some d,.load t x,a,pos,b,none⟩:=⟨⟨O,λc h=>by cases h⟩,λP ev w=>by unfold execOp;exact zTH _⟩
def zRJ{d a pos b t n e}:aM ⟨some d,.buildSlice t n e,a,pos,b,none⟩:=⟨⟨O,λc h=>by cases h⟩,λP ev w=>by unfold execOp;exact zTH _⟩
def zRb{a pos b t x y}:aM ⟨none,.store t x y,a,pos,b,none⟩:=⟨⟨O,λc h=>by cases h⟩,λP ev w=>by unfold execOp;exact yAs _⟩
def zPf{d a pos f b e}:aM ⟨some d,.call {callee:=.builtin .append,args:=b,argTypes:=e},a,pos,f,none⟩:=⟨⟨O,λc h=>by cases h⟩,λP ev w=>by simp only[execOp,resolve,EJ,FX,EO,invoke,builtin];generalize Sem.run P (Builtin.append_ e a (Array.map ev b)) w=r;cases r<;>simp[Result.andThen,Gg]⟩
def L8{m:Fence}{n:Nat}{P:Program}{ops:Array Oper}{p Q:Exit->Act->World->Prop}(d:∀f,m.fn f)(c:∀e a w,p e a w->e=.normal/\Q .normal a w):∀(l:List Oper) (a:Act) (w:World),(∀o∈l,aM o)->wpList P ops p l a w->wpListIn m n P ops Q l a w
 |[],a,w,_,h=>(c _ _ _ h).2|o::l,a,w,g,h=>by
  obtain⟨⟨t,i⟩,u⟩:=g o (by simp);have q:Region.wanted o (yielded ops a.tmps)=true:=by simp[Region.wanted,t]
  unfold wpList at h;rw[AQ q]at h;unfold wpListIn;rw[AQ q];rcases h with h|⟨_,x,s,h⟩
  ·unfold Oper.wp at h
   unfold Oper.wpIn;refine⟨λf _=>d f,?_⟩;rw[Oper.semAt_eq _ _ _ i];have b:=u P a.eval w;revert h b;generalize (execOp a.eval o).run P w=r;intro h b;cases r with
   |ok nx s=>
    cases nx with
    |value v=>exact L8 d c l _ _ (λj k=>g j (by simp[k])) h|skip=>exact L8 d c l _ _ (λj k=>g j (by simp[k])) h|_=>exact b.elim
   |halt hh s=>
    cases hh with
    |panic v=>have:=(c _ _ _ h).1;cases this|_=>exact False.elim h
  ·have:=(c _ _ _ h).1
   cases this
instance(P:Program)(ops:Array Oper)(Q:Exit->Act->World->Prop):Walk P ops (wpListIn Fence.wide 0 P ops Q) where
 val o rest a w v hw hr hx:=by unfold wpListIn;rw[AQ hw];unfold Oper.wpIn;refine⟨λ_ _=>trivial,?_⟩;rw[UD,UE,hr w (Ext.refl w)];exact hx
 pass o rest a w hw hx:=by unfold wpListIn;rw[AP (by simp[hw])];exact⟨λ_ _=>trivial,hx⟩
 bare o o' rest a w hw hw' hd ho ht hx:=by
  unfold wpListIn at hx⊢;rw[AQ hw']at hx;rw[AQ hw];have:execOp a.eval o=execOp a.eval o':=by unfold execOp;rw[ho,ht]
  unfold Oper.wpIn at hx⊢;refine⟨λ_ _=>trivial,?_⟩;have hx2:=hx.2;rw[UD,UE]at hx2⊢;rw[this];revert hx2;unfold Oper.uponIn;rw[hd];exact id
 call o rest a w f args v hw hr hc hx:=by unfold wpListIn;rw[AQ hw];unfold Oper.wpIn;refine⟨λ_ _=>trivial,?_⟩;rw[UD,UE,hr w (Ext.refl w)];refine⟨λh=>by simp[Fence.wide]at h,YV.2 ((hc w (Ext.refl w)).mono ?_)⟩;rintro e w' ⟨rfl,hw'⟩;exact hx w' hw'
def L9(P:Program)(l:Nat)(N:Nat)(Y:H->List Int->List As):Prop:=∀(e:H) (pre:List Int) (x:Int) (w:World) (R:List As),pre.length<N->Sat (Y e pre++R) w->
 YieldAt Fence.wide 0 P l #[.int .u8 x] w λo a=>o=.returned (.bool true)/\∃b,Sat (Y b (pre++[x])++R) a/\Same w a
section
variable[T:GZ P]
def St.Ho(h:St w j B F (wpListIn Fence.wide 0 P L.toArray Q L)):St w j B F ((Code.region D L.toArray false).wp P Q):=
 λa b c d e f g=>wpIn_wide.1 (YE (h a b c d e f g))
def St.Wp(h:St w j B F (Q .normal)):St w j B F (wpListIn Fence.wide 0 P J Q []):=λa b c d e f g=>wpListIn_nil (h a b c d e f g)
def St.yield{n:Type}{l N:Nat}{Y:n->List Int->List As}(h:L9 P l N Y){e:n}{pre:List Int}{k:Int}{x y:Operand}{p:Array Nat}(r:pre.length<N)(s:Nat.blt D j=true)(t:ev B x=some (.func (.yield l) #[] #[]))(hy:ev B y=some (.int .u8 k))(u:∀b,Sat F b->Sat (Y e pre++R) b)(c:∀f,St w j ((D,.bool true)::B) (Y f (pre++[k])++R) (wpListIn Fence.wide 0 P J Q L)):St w j B F (wpListIn Fence.wide 0 P J Q (⟨some D,.call {callee:=.value x,args:=#[y],argTypes:=p},I,U,V,none⟩::L)):=
 λa b q g i v z=>wpListIn_plain O λK A=>by
  obtain⟨fn,tmps,assign,body,m,C⟩:=h e pre k b R r (u b v)
  have E:(execOp a.eval ⟨some D,.call {callee:=.value x,args:=#[y],argTypes:=p},I,U,V,none⟩).run P b=.ok (.round l fn tmps assign body) b:=by simp[execOp,resolve,i.eval t,i.eval hy,Deferred.ofValue,invoke,m]
  unfold Oper.wpIn;refine⟨λ_ _=>trivial,?_⟩;rw[UD,UE,E];refine⟨λh=>by simp[Fence.wide]at h,C.mono ?_⟩;rintro o H ⟨rfl,f,G,d⟩;exact A _ _ (c f _ _ (by simp[Act.put,q]) g (i.put (q▸EU s)) G (z.trans d))
end
def zTa:Nat->Option (wZ Nat Unit):=λk=>some (if k=0 then .done ()else .next (k-1))
def zNJ:∀n,zZ zTa n=some ()
 |0=>cM.2 ⟨1,O⟩|n+1=>by obtain⟨k,a⟩:=cM.1 (zNJ n);exact cM.2 ⟨k+1,by simp[WA,zTa];exact a⟩
def yAD{d:H->List Int->List As}(l:L9 Tryz.prog j D d)(p:(nU i5).length<=D)(o:H):CW Tryz.prog 254 [.func (.yield j) #[] #[],.pointer (some ⟨I,0,none⟩)] (.res (Box I 90 [.map m])::.res (xF (yW .u8) (DN BQ) m i5)::d o []) (λv i=>∃a ss,(ss.map (yW .u8).v).Perm ((nU i5).map (yW .u8).v)/\i=.res (Box I 90 [.map m])::.res (xF (yW .u8) (DN BQ) m i5)::d a ss):=by
 refine CW.intro Tryz.func254 O O O λe h=>?_
 refine St.seq ?_;refine St.region ?_;refine St.NS 0 O O (.head _) O O ?_;refine St.Nb O O (.s .z) O O λb=>?_
 refine St.done ?_;refine St.DK ?_;refine St.slots (Γ':=[(0,.func (.yield j) #[] #[]),(1,.pointer (some ⟨I,0,none⟩)),(5,.pointer (some ⟨b,0,none⟩))]) ⟨O,O,O,trivial⟩ ?_;refine St.block ?_;refine St.loop (zNJ (nU i5).length) (λ(_:Nat) (_:List Int×H)=>[(0,.func (.yield j) #[] #[]),(1,.pointer (some ⟨I,0,none⟩)),(5,.pointer (some ⟨b,0,none⟩))]) (λ_ a=>.res (qX (yW .u8) (DN BQ) m i5 b a.1)::.res (Box I 90 [.map m])::(d a.2 a.1++h)) (λk a=>a.1.length+k=(nU i5).length) ([],o) (by simp) ⟨O,O,O,trivial⟩ (λ_ e=>e) ?_;rintro k ⟨done,a⟩ g-;replace g:done.length+k=(nU i5).length:=g;refine St.seq ?_;refine St.region ?_;refine St.Wn O O .z (λhp=>?_) (λx v c=>?_)
 ·refine St.p O O ?_
  refine St.done ?_;refine St.DK ?_;refine St.seq ?_;refine St.LY O ?_;refine St.exit ?_
  repeat(first|refine St.VF ?_|refine St.QJ rfl ?_)
  refine St.QV ?_;exact St.aBO (rs:=[]) O O (.res (Box I 90 [.map m])::.res (xF (yW .u8) (DN BQ) m i5)::d a done) ⟨a,done,hp,O⟩ (λ_ e=>(e.itV).front (.s .z))
 ·replace c:done.length<(nU i5).length:=c
  refine St.p O O ?_;refine St.done ?_;refine St.DK ?_;refine St.seq ?_;refine St.JE O ?_;refine St.skip ?_;refine St.DK ?_;refine St.slots (Γ':=[(0,.func (.yield j) #[] #[]),(1,.pointer (some ⟨I,0,none⟩)),(5,.pointer (some ⟨b,0,none⟩))]) ⟨O,O,O,trivial⟩ ?_;refine St.block ?_;refine St.seq ?_;refine St.region ?_;refine St.Nc O O (.head _) λn=>?_
  iterate 2 refine St.p O O ?_
  refine St.done ?_;refine St.DK ?_;refine St.seq ?_;refine St.Ho ?_
  iterate 2 refine St.p O O ?_
  refine St.yield l (e:=a) (pre:=done) (R:=.res (qX (yW .u8) (DN BQ) m i5 b (done++[x]))::.res (Box I 90 [.map m])::h) (by omega) O O O (λ_ e=>e.perm ?_) λf=>?_
  ·exact((MX (l₁:=d a done)).trans (UM _ (MX (l₁:=d a done)))).symm
  refine St.p O O ?_;refine St.Wp ?_;refine St.DK ?_;refine St.LY O ?_;refine St.skip ?_;refine St.KW ?_;refine St.DK ?_;exact St.again (k-1) (done++[x],f) (by simp only[zTa];rw[AP (by omega)]) (by show(done++[x]).length+(k-1)=_;rw[ER,RP];omega) ⟨O,O,O,trivial⟩ (λ_ e=>e.perm ((MX (l₁:=d f (done++[x]))).trans (UM _ (MX (l₁:=d f (done++[x]))))))
def Ak(l:Nat)(r:Loop):ah where
 gs:=[l]
 p h:=h l=some (.loop r)
 loc m m' h k:=(h l (by simp)).symm.trans k
def Hq(b:Nat):ah where
 gs:=[b]
 p h:=h b=some (.deferred (some []))
 loc m m' h k:=(h b (by simp)).symm.trans k
def Rt{w:World}{l:Nat}{o:Obj}:oM [l] w (w.putObj l o):=⟨⟨O,O,O,by show w.heap.size<=(w.heap.setIfInBounds l o).size;simp⟩,λk _ a=>World.putObj_heap_other (by simpa using a)⟩
def Sat.Jt{r r':Loop}(h:Sat (.res (Ak j r)::F) w):Sat (.res (Ak j r')::F) (w.putObj j (.loop r')):=by have a:j<w.heap.size:=h.lt (by simp[yU,As.gs,Ak]);refine h.exchange (r':=Ak j r') Rt (by simp[Ak]) (λk b=>⟨GV (by simp[Ak]at b;subst b;exact a) Rt.size,.inl b⟩) (World.putObj_heap_same a) trivial
def zIv{P:Program}{ops:Array Oper}{D:List Deferred}{Qx Q:Exit->Act->World->Prop}(d:∀e a w,Qx e a w->e=.normal/\Q .normal {a with defers:=D} w):∀(l:List Oper) (a:Act) (w:World),(∀o∈l,aM o)->wpList P ops Qx l a w->wpList P ops Q l {a with defers:=D} w
 |[],a,w,_,h=>(d _ _ _ h).2|o::l,a,w,f,h=>by
  obtain⟨⟨k,p⟩,q⟩:=f o (by simp);have s:Region.wanted o (yielded ops a.tmps)=true:=by simp[Region.wanted,k]
  unfold wpList at h;rw[AQ s]at h;refine GN k λK m=>?_
  have b:∀v,({a with defers:=D}:Act).put o.dst v={(a.put o.dst v)with defers:=D}:=λv=>by unfold Act.put;cases o.dst<;>rfl
  rcases h with h|⟨_,t,n,h⟩
  ·unfold Oper.wp at h⊢
   have c:=q P a.eval w
   have g:({a with defers:=D}:Act).eval=a.eval:=by funext x;cases x<;>rfl
   rw[g];revert h c;generalize (execOp a.eval o).run P w=r;intro h c;cases r with
   |ok nx n=>
    cases nx with
    |value v=>exact m _ _ (by rw[b];exact zIv d l _ _ (λi j=>f i (by simp[j])) h)|skip=>exact m _ _ (by rw[b];exact zIv d l _ _ (λi j=>f i (by simp[j])) h)|_=>exact c.elim
   |halt hh n=>
    cases hh with
    |panic v=>have:=(d _ _ _ h).1;cases this|_=>exact False.elim h
  ·have:=(d _ _ _ h).1
   cases this
section
variable[T:GZ P]
def N7(w0:World)(b:Nat)(c:Env)(F:List As):Exit->Act->World->Prop:=λe a w=>e=.normal/\a.tmps.size=b/\a.defers=[]/\At a c/\Sat F w/\Same w0 w
def St.ends:St w j B F (N7 w j B F .normal):=λa b c d e f g=>⟨O,c,d,e,f,g⟩
def zXp{l N p q i1 i2 i3 fn b:Nat}{tmps:Array Value}{Y0:H->List Int->List As}(I:tmps.size=j)(h:At {tmps:=tmps,defers:=[]} B)(hp:Nat.blt p j=true)(J:∀o∈L,aM o)(K:∀o∈i0,aM o)(M:∀(x:Int) (F:List As) (d:World),St d j ((p,.int .u8 x)::B) F (wpList P L.toArray (N7 d j ((q,.int .u8 x)::B) F) L))(Q:∀(e:H) (pre:List Int) (x:Int) (G:List As) (d:World),pre.length<N->St d j ((q,.int .u8 x)::B) (Y0 e pre++G) (wpList P i0.toArray (λo a w=>o=.normal/\∃g,Sat (Y0 g (pre++[x])++G) w/\Same d w) i0)):L9 P l N (λe pre=>.res (Ak l {state:=.ready,pending:=none,fn:=fn,tmps:=tmps,params:=#[p],assign:=Code.region i1 L.toArray false,body:=Code.block i2 (Code.region i3 i0.toArray false),defers:=b})::Y0 e pre):=by
 intro e pre x w G R i;generalize c:({state:=.ready,pending:=none,fn:=fn,tmps:=tmps,params:=#[p],assign:=Code.region i1 L.toArray false,body:=Code.block i2 (Code.region i3 i0.toArray false),defers:=b}:Loop)=r at i⊢;have S:w.heap[l]?=some (.loop r):=i.res (DZ ..);have hy:=run_yield (P:=P) (args:=#[.int .u8 x]) S (by rw[<-c];rfl);refine⟨_,_,_,_,hy,roundIn_of_wpIn trivial ?_⟩
 have k:(r.params.zip #[.int .u8 x]).foldl (λtmps (t,a)=>tmps.setIfInBounds t a) r.tmps=tmps.setIfInBounds p (.int .u8 x):=by rw[<-c];simp
 rw[k];have m:r.assign=Code.region i1 L.toArray false:=by rw[<-c]
 have n:r.body=Code.block i2 (Code.region i3 i0.toArray false):=by rw[<-c]
 have s:r.state=.ready:=by rw[<-c]
 have T:r.pending=none:=by rw[<-c]
 rw[m];have U:p<j:=EU hp;have u:At {tmps:=tmps.setIfInBounds p (.int .u8 x),defers:=[]} ((p,.int .u8 x)::B):=At.put (a:={tmps:=tmps,defers:=[]}) h (by show p<tmps.size;omega);refine YE (L8 (λ_=>trivial) ?_ _ _ _ J (M x _ w _ w (by simp[I]) O u i (Same.refl w)));rintro o V d ⟨rfl,W,X,Y,C,Z⟩;refine⟨O,?_⟩;have v:d.heap[l]?=some (.loop r):=C.res (DZ ..);refine⟨_,run_beginRound v s,?_⟩;have y:=C.Jt (r':={r with state:=.busy});have f:Same d (d.putObj l (.loop {r with state:=.busy})):=(Rt (w:=d) (l:=l)).toSame;revert y f;generalize d.putObj l (.loop {r with state:=.busy})=wB;intro y f;rw[n];refine wpIn_block (YE (L8 (λ_=>trivial) ?_ _ _ _ K (Q e pre x (.res (Ak l {r with state:=.busy})::G) _ R V _ W X Y (y.perm (MX (l₁:=Y0 e pre)).symm) (Same.refl _))));rintro o a2 D ⟨rfl,g,h7,h8⟩;refine⟨O,?_⟩;have E:=h7.perm (MX (l₁:=Y0 g (pre++[x])));have z:D.heap[l]?=some (.loop {r with state:=.busy}):=E.res (DZ ..);refine⟨_,_,run_endRound none z,O,g,?_,?_⟩
 ·have A:=E.Jt (r':=r)
  have er:({({r with state:=.busy}:Loop)with state:=if(none:Option Code).isNone then .ready else .done,pending:=none}:Loop)=r:=by rw[<-c];rfl
  rw[er];exact A
 ·exact Z.trans (f.trans (h8.trans (Rt (w:=D) (l:=l)).toSame))
end
def CW.Nh{fn:Func}{args:List Value}(b:P.funcs[a7]?=some fn)(c:fn.body=some q)(d:fn.ntmps=j)(e:Nat.ble args.length j=true)(h:∀w R,St w j (ML 0 args) (F++R) (q.wp P (bodyPostM Fence.wide 0 P fn (Out w R b2)))):CW P a7 args F b2:=by
 intro w R f;have g:=EU e;refine(YV (n:=0)).1 (callsIn_of_wp_marks b c trivial (wpIn_wide.2 (h w R _ w ?_ O ?_ f (Same.refl w))) O)
 ·simp[d];omega
 ·refine At.ML _ _ args 0 λi v a=>?_
  rw[KE];have k:=(FT.1 a).1;rw[qf (by simpa using k)];simpa using a
def zPs[GZ P](a:Bf P a7)(args:Array Value)(w:World):(callFunc a7 args).run P w=.ok (.enter a7 args) w:=by obtain⟨fn,b,c,d⟩:=GZ.he _ a;unfold callFunc;rw[EJ,UU];simp only[EO,b,c,d,MV,EI,FX]
def Sat.Ju{r:ah}{a:World}(h:Sat (.res r::F) w)(b:oM r.gs w a):Sat F a:=
 (h.exchange (r':=⟨r.gs,λ_=>True,λ_ _ _ _=>trivial,λ_ _=>True,λ_ _ _ _ _ _ _=>trivial⟩) b (LU.1 h.nodup).1 (λk c=>⟨GV (h.lt (by simp only[yU,As.gs];exact IY _ c)) b.size,.inl c⟩) trivial trivial).tail
def St.Hr[T:GZ P]{G R:List As}{N q:Nat}{caps:List Value}{Y0:H->List Int->List As}{S:List Int->Prop}(e0:H)(hx:ev B o=some (.func (.func f) #[] caps.toArray))(he:Bf P f)(hp:Nat.blt D j=true)(hF:∀d,Sat F d->Sat (G++(Y0 e0 []++R)) d)(x:∀(l:Nat) (Y:H->List Int->List As),L9 P l N Y->CW P f (.func (.yield l) #[] #[]::caps) (G++Y e0 []) (λv F'=>∃e ss,S ss/\F'=G++Y e ss))(pa:∀c∈L,aM c)(pb:∀c∈i0,aM c)(hA:∀(o:Int) (F:List As) (g:World),St g j ((D,.int .u8 o)::B) F (wpList P L.toArray (N7 g j ((q,.int .u8 o)::B) F) L))(hB:∀(e:H) (pre:List Int) (o:Int) (R:List As) (g:World),pre.length<N->St g j ((q,.int .u8 o)::B) (Y0 e pre++R) (wpList P i0.toArray (λc a d=>c=.normal/\∃e',Sat (Y0 e' (pre++[o])++R) d/\Same g d) i0))(k:∀(b:Nat) (e:H) (ss:List Int),S ss->∀a d,a.tmps.size=j->a.defers=[]->At a B->Sat (.res (Hq b)::(G++(Y0 e ss++R))) d->Same w d->Q .normal {a with defers:=[{target:=.collected b,args:=#[]}]} d):St w j B F ((Code.rangeFunc o #[D] (Code.region I L.toArray false) (Code.block W (Code.region y i0.toArray false))).wp P Q):=by
 intro a g hs E K hf hw;refine(wpIn_wide (n:=0)).1 (wpIn_rangeFunc λfn _=>?_);have U:=(hF g hf).KA (Ext.alloc g (.deferred (some []))) (Hq g.heap.size) (by simp[Hq]) (λk J=>by simp[Hq]at J;subst J;simp) (jH g _) trivial;have V:(g.alloc (.deferred (some []))).heap.size=g.heap.size+1:=by simp
 have VL:=zXp (P:=P) (l:=g.heap.size+1) (N:=N) (p:=D) (q:=q) (i1:=I) (i2:=W) (i3:=y) (fn:=fn) (b:=g.heap.size) (tmps:=a.tmps) (Y0:=Y0) hs (λi v hv=>K i v hv) hp pa pb hA hB;generalize s:({state:=.ready,pending:=none,fn:=fn,tmps:=a.tmps,params:=#[D],assign:=Code.region I L.toArray false,body:=Code.block W (Code.region y i0.toArray false),defers:=g.heap.size}:Loop)=rec at VL;have z:=U.KA (Ext.alloc _ (.loop rec)) (Ak (g.heap.size+1) rec) (by simp[Ak]) (λk J=>by simp[Ak]at J;subst J;simp) (by have:=jH (g.alloc (.deferred (some []))) (.loop rec);rwa [V]at this) trivial;have A:Same g ((g.alloc (.deferred (some []))).alloc (.loop rec)):=(Ext.alloc g _).toSame.trans (Ext.alloc _ _).toSame;have m:=run_enterLoop_outer (P:=P) (w:=g) fn a.tmps #[D] (Code.region I L.toArray false) (Code.block W (Code.region y i0.toArray false));rw[s]at m;revert z A m;generalize (g.alloc (.deferred (some []))).alloc (.loop rec)=w3;intro z A m;refine⟨g.heap.size+1,_,w3,{target:=.fn (.func f) caps.toArray,args:=#[.func (.yield (g.heap.size+1)) #[] #[]]},w3,f,(Value.func (.yield (g.heap.size+1)) #[] #[]::caps).toArray,w3,m,?_,λ_ _=>trivial,?_,λh=>by simp[Fence.wide]at h,YV.2 ?_⟩
 ·have hev:Act.eval {tmps:=a.tmps,defers:=a.defers} o=.func (.func f) #[] caps.toArray:=K.eval hx
  simp[resolve,K.eval hx,Deferred.ofValue]
  try rfl
 ·simp only[invoke]
  have:=zPs he (#[Value.func (.yield (g.heap.size+1)) #[] #[]]++caps.toArray) w3;rw[this];congr 2;simp
 ·have u:∀(Y R:List As) (X:As),(G++(Y++X::R)).Perm (X::(G++(Y++R))):=λY R X=>by rw[<-FH,<-FH];exact MX
  have hc:=x _ _ VL w3 (.res (Hq g.heap.size)::R) (z.perm ?_)
  ·refine hc.mono ?_
   rintro c M ⟨v,F',rfl,⟨e,ss,hS,rfl⟩,OX,C⟩
   have Jv:=OX.perm (G:=.res (Ak (g.heap.size+1) rec)::.res (Hq g.heap.size)::(G++(Y0 e ss++R))) (by rw[FH];exact(MX (l₁:=G)).trans (UM _ (u _ _ _)))
   have hL:M.heap[g.heap.size+1]?=some (.loop rec):=Jv.res (DZ ..);have r:=run_endLoop (P:=P) hL (by rw[<-s];simp);have Z:rec.pending=none:=by rw[<-s]
   have t:oM (Ak (g.heap.size+1) rec).gs M (M.putObj (g.heap.size+1) (.loop {rec with state:=.exhausted})):=Rt;revert r t;generalize M.putObj (g.heap.size+1) (.loop {rec with state:=.exhausted})=w5;intro r t;rw[Z]at r;refine⟨none,w5,r,?_⟩;have h5:=Jv.Ju t;have:=k g.heap.size e ss hS a w5 hs E K h5 (hw.trans (A.trans (C.trans t.toSame)));rw[E];exact this
  ·rw[FH]
   exact(UM _ (u _ _ _).symm).trans (MX (l₁:=G)).symm
def yBB(bs:Nat)(e:Option Addr×Nat)(pre:List Int):List As:=[.res (Box bs 22 [.slice e.1 pre.length e.2]),.res (zJ BQ 5 e.1 e.2 pre)]
def zRR(w:(nU i5).length<=1000):CW Tryz.prog 256 [.slice none 0 0,.func (.func 254) #[] #[.pointer (some ⟨j,0,none⟩)]] [.res (Box j 90 [.map m]),.res (xF (yW .u8) (DN BQ) m i5)] (λv V=>∃B c ss,(ss.map (yW .u8).v).Perm ((nU i5).map (yW .u8).v)/\v=.slice B ss.length c/\V=[.res (Box j 90 [.map m]),.res (xF (yW .u8) (DN BQ) m i5),.res (zJ BQ 5 B c ss)]):=by
 refine CW.Nh Tryz.func256 O O O λn d=>?_
 refine St.seq ?_;refine St.region ?_;refine St.box O O λbs=>?_
 refine St.p O O ?_;refine St.done ?_;refine St.DK ?_;refine St.seq ?_;refine St.seq ?_;refine St.region ?_;refine St.p O O ?_;refine St.done ?_;refine St.DK ?_;refine St.slots (Γ':=[(2,.pointer (some ⟨bs,0,none⟩)),(6,.func (.func 254) #[] #[.pointer (some ⟨j,0,none⟩)])]) ⟨O,O,trivial⟩ ?_;refine St.block ?_;refine St.Hr (N:=1000) (q:=5) (caps:=[.pointer (some ⟨j,0,none⟩)]) (Y0:=yBB bs) (S:=λss=>(ss.map (yW .u8).v).Perm ((nU i5).map (yW .u8).v)) (G:=[.res (Box j 90 [.map m]),.res (xF (yW .u8) (DN BQ) m i5)]) (R:=d) (none,0) O O O (λn r=>(((r.GI BQ 5).front (.s .z)).front (IQ 3 O)).front (IQ 3 O)) (λl Y W=>yAD W w _) ?_ ?_ (λx H k=>?_) (λe pre x d k hl=>?_) ?_
 ·intro o i
  simp only[EC,RZ,or_false]at i;subst i;exact zGN
 ·intro o i
  simp only[EC,RZ,or_false]at i;rcases i with rfl|rfl|rfl|rfl|rfl
  ·exact zLC
  ·exact zSQ
  ·exact zRJ
  ·exact zPf
  ·exact zRb
 ·refine St.p O O ?_
  refine St.done ?_;refine St.slots (Γ':=[(5,.int .u8 x),(2,.pointer (some ⟨bs,0,none⟩)),(6,.func (.func 254) #[] #[.pointer (some ⟨j,0,none⟩)])]) ⟨O,O,O,trivial⟩ ?_;exact St.ends
 ·have f:app 1 pre [x]=some (pre++[x]):=by unfold app;rw[AQ (by simp;omega)]
  refine St.NS 0 O O (.head _) O O ?_;refine St.p O O ?_;refine St.buildSlice O O O O O O O O λI=>?_
  refine St.app (E:=BQ) f O O O (IQ 2 O) O O O O O O O O (jC (.head _) O O) O O λy A=>?_
  refine St.store 0 O O O O O O (IQ 2 O) O ?_;refine St.done ?_;intro a n T g U M P;exact⟨O,(y,A),((.k (.k (.d .z))):mA _ _).sat M,P⟩
 ·intro b e ss Z a k T g U M P
  have Q:∀{X:Act->World->Prop},St n _ [(2,.pointer (some ⟨bs,0,none⟩)),(6,.func (.func 254) #[] #[.pointer (some ⟨j,0,none⟩)])] (.res (Hq b)::([.res (Box j 90 [.map m]),.res (xF (yW .u8) (DN BQ) m i5)]++(yBB bs e ss++d))) X->X a k:=λr=>r a k T g U M P
  refine wp_seq ?_;refine wp_region_lit (zIv (Qx:=N7 n Tryz.f256.ntmps [(4,.slice e.1 ss.length e.2)] (.res (Hq b)::([.res (Box j 90 [.map m]),.res (xF (yW .u8) (DN BQ) m i5)]++(yBB bs e ss++d)))) ?_ _ a k ?_ (Q ?_))
  ·rintro o J t ⟨rfl,K,L,C,u,D⟩
   refine⟨O,?_⟩;refine wp_ret ?_;have hD:t.heap[b]?=some (.deferred (some [])):=u.res (DZ ..);have h:oM (Hq b).gs t (t.putObj b (.deferred none)):=Rt;have F:=u.Ju h;refine⟨by simp,.inl ⟨b,_,O,run_takeDeferred hD,.slice e.1 ss.length e.2,zJi C (rs:=[.tmp 4]) O O,?_⟩⟩;refine⟨_,_,O,⟨e.1,e.2,ss,Z,O,O⟩,?_,D.trans h.toSame⟩;exact((.k (.k (.d (.k .z)))):mA _ _).sat F
  ·intro o i
   simp only[EC,RZ,or_false]at i;rcases i with rfl|rfl
   ·exact zLC
   ·exact zGN
  ·refine St.NS 0 O O jg O O ?_
   refine St.p O O ?_;refine St.done ?_;refine St.slots (Γ':=[(4,.slice e.1 ss.length e.2)]) ⟨O,trivial⟩ ?_;exact St.ends
section
variable[T:GZ P]
def N8(h:Jl M.length r=some b9):some (Value.slice A M.length j)=some (Value.slice A r.length j):=by rw[zXB h]
end
section
def zBh(c:Int):Option Int:=
 bnd (bif decide (c>=4294967296)then some (sI .u64 c 32,32)else some (c,0):Option (Int×Int)) λa=>bnd (bif decide (a.1>=65536)then some (sI .u64 a.1 16,wrap .i64 (a.2+16))else some (a.1,a.2):Option (Int×Int)) λb=>bif decide (b.1>=256)then bnd (JA (⟨#[0,1,2,2,3,3,3,3,4,4,4,4,4,4,4,4,5,5,5,5,5,5,5,5,5,5,5,5,5,5,5,5,6,6,6,6,6,6,6,6,6,6,6,6,6,6,6,6,6,6,6,6,6,6,6,6,6,6,6,6,6,6,6,6,7,7,7,7,7,7,7,7,7,7,7,7,7,7,7,7,7,7,7,7,7,7,7,7,7,7,7,7,7,7,7,7,7,7,7,7,7,7,7,7,7,7,7,7,7,7,7,7,7,7,7,7,7,7,7,7,7,7,7,7,7,7,7,7,8,8,8,8,8,8,8,8,8,8,8,8,8,8,8,8,8,8,8,8,8,8,8,8,8,8,8,8,8,8,8,8,8,8,8,8,8,8,8,8,8,8,8,8,8,8,8,8,8,8,8,8,8,8,8,8,8,8,8,8,8,8,8,8,8,8,8,8,8,8,8,8,8,8,8,8,8,8,8,8,8,8,8,8,8,8,8,8,8,8,8,8,8,8,8,8,8,8,8,8,8,8,8,8,8,8,8,8,8,8,8,8,8,8,8,8,8,8,8,8,8,8,8,8,8,8,8,8]⟩) (wrap .u8 (sI .u64 b.1 8))) λd=>some (wrap .i64 ((wrap .i64 (b.2+8))+(wrap .i64 d)))else bnd (JA (⟨#[0,1,2,2,3,3,3,3,4,4,4,4,4,4,4,4,5,5,5,5,5,5,5,5,5,5,5,5,5,5,5,5,6,6,6,6,6,6,6,6,6,6,6,6,6,6,6,6,6,6,6,6,6,6,6,6,6,6,6,6,6,6,6,6,7,7,7,7,7,7,7,7,7,7,7,7,7,7,7,7,7,7,7,7,7,7,7,7,7,7,7,7,7,7,7,7,7,7,7,7,7,7,7,7,7,7,7,7,7,7,7,7,7,7,7,7,7,7,7,7,7,7,7,7,7,7,7,7,8,8,8,8,8,8,8,8,8,8,8,8,8,8,8,8,8,8,8,8,8,8,8,8,8,8,8,8,8,8,8,8,8,8,8,8,8,8,8,8,8,8,8,8,8,8,8,8,8,8,8,8,8,8,8,8,8,8,8,8,8,8,8,8,8,8,8,8,8,8,8,8,8,8,8,8,8,8,8,8,8,8,8,8,8,8,8,8,8,8,8,8,8,8,8,8,8,8,8,8,8,8,8,8,8,8,8,8,8,8,8,8,8,8,8,8,8,8,8,8,8,8,8,8,8,8,8,8]⟩) (wrap .u8 b.1)) λe=>some (wrap .i64 (b.2+(wrap .i64 e)))
abbrev AL(A:Option Addr)(c:Nat)(x):=As.res (zJ BQ 5 A c x)
abbrev AB(A:Option Addr)(c:Nat)(x):=As.ro (FB BQ A c x)
abbrev AY(A:Option Addr)(c:Nat)(x):=As.res (zJ zU 3 A c x)
abbrev BP(A:Option Addr)(c:Nat)(x):=As.ro (FB zU A c x)
abbrev HY(A:Option Addr)(c:Nat)(x):=As.res (zJ yC 4 A c x)
abbrev BM(A:Option Addr)(c:Nat)(x):=As.ro (FB yC A c x)
abbrev Am(A:Option Addr)(c:Nat)(x):=As.res (zJ yBR 9 A c x)
abbrev VN(A:Option Addr)(c:Nat)(x):=As.res (zJ F8 42 A c x)
abbrev BX(g:Nat):Value:=.pointer (some ⟨g,0,none⟩)
abbrev EL(g:Nat):Option Addr:=some ⟨g,0,none⟩
abbrev AO(n:Int):Value:=.int .i64 n
abbrev FC(l:List Value):Value:=.tuple l.toArray
abbrev AV{α:Type}(A:Option Addr)(x:List α)(c:Nat):Value:=.slice A x.length c
abbrev DC(l:List Value):Value:=.agg l.toArray
abbrev DI:=CW Tryz.prog
instance:Coe As Fi:=⟨λx=>match x with
 |.ro r=>.ro r|.res r=>.res r⟩
abbrev EQ:=Option Addr×Nat
abbrev IB:=Option Addr×Nat×Option Addr×Nat
abbrev Ht:=Option Addr×Nat×Option Addr×Nat×Option Addr×Nat
abbrev kz:=Option Addr×Nat×Option Addr×Nat×Option Addr×Nat×Option Addr×Nat
abbrev VO:=Option Addr×Nat×Option Addr×Nat×Option Addr×Nat×Option Addr×Nat×Option Addr×Nat
abbrev aCF:=Option Addr×Nat×Option Addr×Nat×Option Addr×Nat×Option Addr×Nat×Option Addr×Nat×Option Addr×Nat
abbrev aCG:=Option Addr×Nat×Option Addr×Nat×Option Addr×Nat×Option Addr×Nat×Option Addr×Nat×Option Addr×Nat×Option Addr×Nat×Option Addr×Nat
abbrev Jw:=Option Addr×Nat×Option Addr×Nat×Option Addr×Nat×Option Addr×Nat×Option Addr×Nat×Option Addr×Nat×Option Addr×Nat×Option Addr×Nat×Option Addr×Nat×Option Addr×Nat×Option Addr×Nat
def zHR{d e}(a:zBh d=some e):DI 269 [.int .u64 d] [] (Val (AO e)):=CW.iz O λl m=>.g 211 O<|.bd a λf b a=>.co 0 [.s 0 (.int .u64 f.1),.s 2 (AO f.2)] [] O O (.g 11 O<|.cb b O (λb=>.k 111 O<|ij b▸.bu O O zw) λb=>ij b▸(.sk<|.hU O zw))<|.g 2 O<|.bd a λh c a=>.co 0 [.s 0 (.int .u64 h.1),.s 2 (AO h.2)] [] O O (.g 11 O<|.cb c O (λc=>.k 111 O<|ij c▸.bu O O zw) λc=>ij c▸(.sk<|.hU O zw))<|.g 112 O<|.cb a O (λa=>.k 411111 O<|.bd a λn i a=>.JA O O O O O i<|.u 1 O<|ij a▸.rv O O ⟨O,O⟩ zw) λa=>.k 411 O<|.bd a λo j a=>.JA O O O O O j<|.u 1 O<|ij a▸.rv O O ⟨O,O⟩ zw
def aG(a:Int):Option Int:=
 bnd (zBh a) λb=>some b
def zJF{b c}(a:aG b=some c):DI 258 [.int .u64 b] [] (Val (AO c)):=CW.iz O λe f=>.g 211 O<|.LY O<|.k 211 O<|.bd a λh d a=>.cv [] (zHR d) O<|.u 1 O<|ij a▸.rv O O ⟨O,O⟩ zw
def kP(a:Int):Option Bool:=
 some (a !=a)
def zBi{a b}(c:kP a=some b):DI 275 [.int .u8 a] [] (Val (.bool b)):=by unfold kP at c;exact CW.iz O λd e=>.g 1111 O<|ij c▸.rv O O ⟨O,O⟩ zw
def zCA(a:Int)(b:Int):Option Bool:=
 bnd (bnd (kP a) λc=>bif c then bnd (kP b) λd=>bif !d then some true else(some (decide (a<b)))else some (decide (a<b)):Option Bool) λe=>some e
def zIk{c d e}(b:zCA c d=some e):DI 265 [.int .u8 c,.int .u8 d] [] (Val (.bool e)):=CW.iz O λj l=>.g 211 O<|.bd b λf a b=>.co 0 [.s 4 (.bool f)] [] O O (.k 21 O<|.bd a λm h a=>.cv [] (zBi h) O<|.n 1 O<|.gs 7 a O (λa=>.n 1 O<|.CV O O<|.bd a λo i a=>.cv [] (zBi i) O<|.n 3 O<|.gs 12 a O (λa=>ij a▸.bu O O zw) λa=>ij a▸.bu O O zw) λa=>ij a▸.bu O O zw)<|ij b▸.rv O O ⟨O,O⟩ zw
def vL[AX](e:(List Int))(c:Int)(f:Int):Option (List Int):=
 bnd (zZ (τ:=List Int) (λ(b:List Int×Int)=>bif decide (b.2<f)then bnd (zZ (τ:=List Int) (λ(a:List Int×Int)=>bnd (bif decide (a.2>c)then bnd (CO a.1 a.2) λg=>bnd (CO a.1 (wrap .i64 (a.2-1))) λh=>bnd (zCA g h) λi=>some i else some false:Option Bool) λj=>bif j then bnd (CO a.1 (wrap .i64 (a.2-1))) λp=>bnd (CO a.1 (wrap .i64 (a.2-1))) λk=>bnd (CO a.1 a.2) λl=>bnd (CO a.1 a.2) λq=>bnd (uF a.1 a.2 k) λd=>bnd (CO d (wrap .i64 (a.2-1))) λr=>bnd (uF d (wrap .i64 (a.2-1)) l) λm=>some (.next (m,wrap .i64 (a.2-1)))else some (.done a.1)) (b.1,b.2)) λn=>some (.next (n,wrap .i64 (b.2+1)))else some (.done b.1)) (e,wrap .i64 (c+1))) λo=>some o
def gO[AX]{l o p q}(m:vL l o p=some q):DI 259 [AV A l j,AO o,AO p] [AL A j l] (λv F=>v=FC []/\F=[AL A j q]):=CW.iz O λP Q=>.g 11 O<|.bd m λG d m=>.JX<|.co 1 [] [AL A j G] O O (.lp d () 1 (λ(h:List Int×Int) (r:Unit)=>[.s 0 (AV A h.1 j),1,2,.s 6 (AO h.2)]) (λh r=>[AL A j h.1]) O O O zw<|λh r R H I f=>.g 112 O<|.cb f O (λf=>.g 21 O<|.bk<|.g 11 O<|.bd f λt e f=>.JX<|.co 1 [.s 0 (AV A t j),1,2,6] [AL A j t] O O (.lp e () 1 (λ(i:List Int×Int) (u:Unit)=>[.s 0 (AV A i.1 j),1,2,6,.s 7 (AO i.2)]) (λi u=>[AL A j i.1]) O O O zw<|λi u S J K b=>.g 22 O<|.bd b λL c b=>.co 0 [0,1,2,6,7,.s 30 (.bool L)] [] O O (.regionF mixed (by kernel_rfl)<|.n 4 O<|.gs 19 c O (λc=>.n 2 O<|.CV O O<|.bd c λT w c=>.SY w 0 O λU g=>by subst g;exact .CV O O<|.QT 0 w O O (.head _) O O<|by exact .n 3 O<|.CV O O<|.bd c λV x c=>.SY x 0 O λW g=>by cases g;exact .CV O O<|.QT 0 x O O (.head _) O O<|by exact .CV O O<|.bd c λX M c=>.cv [] (zIk M) O<|ij c▸(.beq O<|.hU O zw)) λc=>ij c▸(.beq O<|.hU O zw))<|.cb b O (λb=>.g 21 O<|.bk<|.bd b λY N b=>.TM (.head _) N λZ g=>by subst g;exact .BU (iN [0,4,8,12,16,20,24,28,33,37,40,44,49,53,57,63,65,71] .nil) _ mixed (by kernel_rfl) (zl [] 1 O)<|.yn 8 O<|.bd b λa0 y b=>.JF (Rd.au (E:=BQ) y O O O O O O O) O<|.JF (Rd.QT 0 y O (.head _) O O) O<|.yn 2 O<|.bd b λa B b=>.JF (Rd.au (E:=BQ) B O O O O O O O) O<|.JF (Rd.QT 0 B O (.head _) O O) O<|.bd b λa2 C b=>.JF (Rd.au (E:=BQ) C O O O O O O O) O<|.CU<|.bd b λa3 d b=>.WH 0 C d O O .z O O O O O<|by exact .ss 0 (wM d)<|by exact .ss 33 (wM d)<|by exact .ss 35 (wM d)<|by exact .ss 38 (wM d)<|by exact .ss 43 (wM d)<|.xk (zl [] 1 O)<|.bd b λa4 D b=>.JF (Rd.au (E:=BQ) D O O O O O O O) O<|.CU<|.bd b λa5 e b=>.WH 0 D e O O .z O O O O O<|by exact .ss 0 (wM e)<|by exact .ss 33 (wM e)<|by exact .ss 35 (wM e)<|by exact .ss 38 (wM e)<|by exact .ss 43 (wM e)<|.xk (zl [] 1 O)<|.DF<|.bn<|.k 1 O<|.bh () b J O O zw) λb=>.xx<|hy b K▸.hU O zw)<|.bn<|.k 1 O<|.bh () f H O O zw) λf=>.xx<|hy f I▸.VH () trivial zw)<|ij m▸.VI Tryz.results259 .nil O _ ⟨O,O⟩ zw
def tB[AX](b:(List Int))(d:Int)(e:Int)(f:Int):Option (List Int):=
 bnd (zZ (τ:=(List Int)⊕Unit) (λ(j:Int×Int×Int×Bool×Bool)=>bif decide ((wrap .i64 (j.2.1-j.1))<=12)then bnd (vL b j.1 j.2.1) λc=>bnd (Jl b.length c) λh=>some (.done (.inl c))else bif(j.2.2.1==0)then none else bif !j.2.2.2.1 then none else none) (d,e,f,true,true)) λg=>xX g λi=>none
def bU[AX]{h i g l m}(c:tB h i g l=some m):DI 257 [AV A h j,AO i,AO g,AO l] [AL A j h] (λv p=>v=FC []/\p=[AL A j m]):=CW.iz O λx y=>.g 1111 O<|.bd c λq e c=>.JX<|.cj 0 (λ(f:Unit) (n:Unit)=>[]) (λf n=>[]) O O (λf=>q=.inr f) (.lp e () 0 (λ(d:Int×Int×Int×Bool×Bool) (o:Unit)=>[0,.s 1 (AO d.1),.s 2 (AO d.2.1),.s 3 (AO d.2.2.1),.s 8 (.bool d.2.2.2.1),.s 9 (.bool d.2.2.2.2)]) (λd o=>[]) O O O zw<|λd o z B r b=>.bk<|.g 11211 O<|.cb b O (λb=>.k 41 O<|.bd b λC t b=>.cq 1 [] [] 0 (gO t) O<|.bd b λD e b=>by exact .ss 0 (N8 e)<|by exact .ss 24 (N8 e)<|.u 1 O<|hz b r c▸.rv O O ⟨O,O⟩ zw) λb=>.g 1121 O<|.cb b O (λb=>.k 41 O<|by cases b) λb=>.g 1121 rfl<|.cb b rfl (λb=>.k 41 rfl<|by cases b) λb=>.k 411 rfl<|by cases b)<|λf n w=>by subst w;have c:=KF c;have c:none=some _:=c;cases c
def pZ[AX](a:(List Int)):Option (List Int):=
 bnd (aG (wrap .u64 (a.length:Int))) λc=>bnd (tB a 0 (a.length:Int) c) λb=>bnd (Jl a.length b) λd=>some b
def zAG[AX]{c d}(b:pZ c=some d):DI 253 [AV A c j] [AL A j c] (λv f=>v=FC []/\f=[AL A j d]):=CW.iz O λi k=>.k 5111 O<|.bd b λl g b=>.cv [] (zJF g) O<|.bd b λm h b=>.cq 1 [] [] 0 (bU h) O<|.bd b λn e b=>by exact .ss 0 (N8 e)<|by exact .ss 5 (N8 e)<|.done<|ij b▸.VI Tryz.results253 .nil O _ ⟨O,O⟩ zw
end
@[simp] def AA(a:H)(f:H->Option Z):bnd (some a) f=f a:=rfl
@[simp] def Wq(f:H->Option Z):bnd none f=none:=rfl
@[simp] def QK(r:H)(f:Z->Option H):xX (.inl r) f=some r:=rfl
@[simp] def FD(s:Z)(f:Z->Option H):xX (.inr s) f=f s:=rfl
def Ru(x:Option H):bnd x (λy=>some y)=x:=by cases x<;>rfl
def yF{x:Int}(a:-9223372036854775808<=x)(b:x<=9223372036854775807):wrap .i64 x=x:=by unfold wrap;simp only[IntKind.bits,IntKind.signed];simp;omega
def bY{x:Int}(a:0<=x)(b:x<=18446744073709551615):wrap .u64 x=x:=by unfold wrap;simp only[IntKind.bits,IntKind.signed];simp;omega
def zPC(a:0<=e)(b:e<=4294967295):wrap .u32 e=e:=by unfold wrap;simp only[IntKind.bits,IntKind.signed];simp;omega
def Nj(a:0<=e)(b:e<=255):wrap .u8 e=e:=by unfold wrap;simp only[IntKind.bits,IntKind.signed];simp;omega
def N9(x:Int):wrap .u8 x=x%256:=by unfold wrap;simp[IntKind.bits,IntKind.signed]
def dC(x:Int):wrap .u32 x=x%4294967296:=by unfold wrap;simp[IntKind.bits,IntKind.signed]
def zV{n:Nat}(h:j<n)(a:n<=140737488355328):wrap .i64 ((j:Int)+1)=((j+1:Nat):Int):=by rw[yF (by omega) (by omega)];omega
def Ws{n:Nat}(a:0<j)(h:j<n)(b:n<=140737488355328):wrap .i64 ((j:Int)-1)=((j-1:Nat):Int):=by rw[yF (by omega) (by omega)];omega
@[simp] def IA(a:List H)(i:Nat):CO a (i:Int)=a[i]?:=by simp[CO]
def yN(h:j<M.length):CO M (j:Int)=some M[j]:=by simp[h]
def wF(h:(M.length+r.length)*j<=140737488355328)(a:M.length+r.length<=9223372036854775807):app j M r=some (M++r):=by simp[app,h,a]
def gV(a b:ByteArray):(a.toList==b.toList)=decide (a=b):=by
 rw[FK];simp only[KL,FP];constructor
 ·intro h
  rw[NV,NV]at h;obtain⟨x⟩:=a;obtain⟨y⟩:=b;have:x=y:=Array.toList_inj.1 h;rw[this]
 ·intro h;rw[h]
def zID[DecidableEq H](i:∀a b,b1.eq a b=true↔a=b)(m:List (H×Z))(k c:H)(v:Z):tO b1.eq (iH b1.eq m k v) c=if c=k then some v else tO b1.eq m c:=by
 have d:∀a b,a≠b->b1.eq a b=false:=λa b h=>by
  cases j:b1.eq a b
  ·rfl
  ·exact absurd ((i a b).1 j) h
 have f:∀a,b1.eq a a=true:=λa=>(i a a).2 O
 induction m with
 |nil=>
  by_cases h:c=k
  ·subst h;simp[iH,tO,f]
  ·simp[iH,tO,d _ _ h,h]
 |cons x r l=>
  by_cases g:k=x.1
  ·subst g
   by_cases h:c=x.1
   ·subst h;simp[iH,tO,f]
   ·simp[iH,tO,f,d _ _ h,h]
  ·by_cases h:c=x.1
   ·subst h
    have:x.1≠k:=λe=>g e.symm
    simp[iH,tO,d _ _ g,f,this]
   ·simp[iH,tO,d _ _ g,d _ _ h,l]
def yV{t:Z}(h:d7 S=some (.done t)):zZ d7 S=some t:=
 cM.2 ⟨1,by simp[WA,h]⟩
def xV{s':H}{t:Z}(h:d7 S=some (.next s'))(k:zZ d7 s'=some t):zZ d7 S=some t:=by obtain⟨n,a⟩:=cM.1 k;exact cM.2 ⟨n+1,by simp[WA,h,a]⟩
def rF{m:H->Option (wZ H Z)}(S:Nat->H)(n:Nat){t:Z}(a:∀i,i<n->m (S i)=some (.next (S (i+1))))(b:m (S n)=some (.done t)):zZ m (S 0)=some t:=by
 have:∀k i,i+k=n->zZ m (S i)=some t:=by
  intro k;induction k with
  |zero=>intro i c;obtain rfl:i=n:=by omega
         exact yV b
  |succ k d=>intro i c;exact xV (a i (by omega)) (d (i+1) (by omega))
 exact this n 0 (by omega)
def O0{m:H->Option (wZ H Z)}(S:Nat->H)(n:Nat)(f:Nat->Option Z){t:Z}(c:∀i,i<n->m (S i)=some (match f i with|some u=>.done u|none=>.next (S (i+1))))(d:m (S n)=some (.done t)):zZ m (S 0)=some (((List.range n).findSome? f).getD t):=by
 have:∀k i,i+k=n->zZ m (S i)=some (((List.range' i k).findSome? f).getD t):=by
  intro k;induction k with
  |zero=>intro i e;obtain rfl:i=n:=by omega
         exact yV d
  |succ k g=>
   intro i e;have a:=c i (by omega);rw[RY,OG];cases b:f i with
   |some u=>rw[b]at a;simpa using yV a|none=>rw[b]at a;exact xV a (g (i+1) (by omega))
 simpa[uj]using this n 0 (by omega)
def Wu{m:H->Option (wZ H Z)}(S:Nat->H)(n:Nat)(p:Nat->Bool){u t:Z}(a:∀i,i<n->m (S i)=some (bif p i then .done u else .next (S (i+1))))(b:m (S n)=some (.done t)):zZ m (S 0)=some (bif(List.range n).any p then u else t):=by
 rw[O0 S n (λi=>bif p i then some u else none) (t:=t) (λi c=>?_) b]
 ·congr 1
  generalize List.range n=l;induction l with
  |nil=>rfl|cons x r d=>
   rw[OG,List.any_cons];cases p x
   ·simpa using d
   ·rfl
 ·rw[a i c]
  cases p i<;>rfl
def zNd{b j:Type}(p:b->Bool)(g:Nat->b->j):∀(l:List b) (k:Nat) (f:Nat->Option j),(∀i (h:i<l.length),f (k+i)=if p l[i]then some (g (k+i) l[i])else none)->
  (∃i,∃h:i<l.length,p l[i]=true/\l.find? p=some l[i]/\(List.range' k l.length).findSome? f=some (g (k+i) l[i]))\/(l.find? p=none/\(∀x∈l,p x=false)/\(List.range' k l.length).findSome? f=none)
 |[],k,f,_=>.inr ⟨O,by simp,O⟩|x::r,k,f,m=>by
  have a:=m 0 (by simp);simp only[LH,List.getElem_cons_zero]at a;cases hp:p x
  ·have n:=zNd p g r (k+1) f (λi h=>by have:=m (i+1) (by simpa using h);simpa[LG,KU 1 i]using this)
   simp only[hp,MV,EI]at a;rcases n with⟨i,h,c,d,e⟩|⟨c,d,e⟩
   ·refine .inl ⟨i+1,by simpa using h,by simpa using c,by simp[UF,hp,d],?_⟩
    simp only[EP,RY,OG,a,e,List.getElem_cons_succ];congr 2;omega
   ·exact .inr ⟨by simp[UF,hp,c],by simpa[hp]using d,by simp[RY,OG,a,e]⟩
  ·refine .inl ⟨0,by simp,by simpa using hp,by simp[UF,hp],?_⟩
   simp only[hp,FO]at a;simp[RY,OG,a]
def O1(l:List H)(p:H->Bool)(g:Nat->H->Z)(f:Nat->Option Z)(a:∀i (h:i<l.length),f i=if p l[i]then some (g i l[i])else none):(∃i,∃h:i<l.length,p l[i]=true/\l.find? p=some l[i]/\(List.range l.length).findSome? f=some (g i l[i]))\/(l.find? p=none/\(∀x∈l,p x=false)/\(List.range l.length).findSome? f=none):=by have:=zNd p g l 0 f (by simpa using a);simpa[uj]using this
def Wv(l:List H)(p:H->Bool)(f:Nat->Bool)(b:∀i (h:i<l.length),f i=p l[i]):(List.range l.length).any f=l.any p:=by
 rw[FK];simp only[JH,JS];constructor
 ·rintro⟨i,a,h⟩
  exact⟨l[i],DJ a,by rw[<-b i a];exact h⟩
 ·rintro⟨x,c,h⟩
  obtain⟨i,a,rfl⟩:=vz c;exact⟨i,a,by rw[b i a];exact h⟩
def xA{l:List H}(h:j<l.length):l.take (j+1)=l.take j++[l[j]]:=by rw[List.take_add_one,CJ h];rfl
def zKO{m:H->Option (wZ H Z)}(I:H->Prop)(μ:H->Nat)(Q:Z->Prop)(h:∀s,I s->(∃a,m s=some (.next a)/\I a/\μ a<μ s)\/∃t,m s=some (.done t)/\Q t):∀s,I s->∃t,zZ m s=some t/\Q t:=by
 have:∀n s,μ s<=n->I s->∃t,zZ m s=some t/\Q t:=by
  intro n;induction n with
  |zero=>
   intro s f b;rcases h s b with⟨a,_,_,g⟩|⟨t,c,d⟩
   ·omega
   ·exact⟨t,yV c,d⟩
  |succ n i=>
   intro s f b;rcases h s b with⟨a,j,e,g⟩|⟨t,c,d⟩
   ·obtain⟨t,k,l⟩:=i a (by omega) e
    exact⟨t,xV j k,l⟩
   ·exact⟨t,yV c,d⟩
 exactλs b=>this (μ s) s (FN _) b
end Go.Proofs.YtjconpohbhlcmaaGreatDoor
end
