/-
  Texts of this seat, put together: rules, walks, plain laws.
  Conditions: none.
-/
import Derived.Test.YtplchdlgdjcojaaGreatDoorPQ1
noncomputable section
namespace Go.Proofs.YtplchdlgdjcojaaGreatDoor
open Go IntKind
set_option linter.unusedVariables false
set_option linter.unusedSimpArgs false
set_option linter.unusedSectionVars false
set_option maxHeartbeats 4000000
set_option maxRecDepth 10000
def okS (s:ByteArray):Prop:=s.size≤maxLen
def di {α:Type} (φ:α→Prop) (xs:List α):Prop:=(∀ x∈xs,φ x)∧xs.length≤maxLen
def okB (_:Bool):Prop:=True
inductive LC (α:Type):Type 1 where
 | v (f:α→Value) (one:∀ x,(f x).oneCell'=true)
 | s {β:Type} (E:FQ β) (f:α→List β)
def LC.rel {α:Type} (m:Hp) (x:α):LC α→Value→Prop
 | .v f _,u=>u=f x
 | .s E f,u=>∃ A c,u= .slice A (f x).length c∧JJ E A c (f x) m
def XU {α:Type} (m:Hp) (x:α):List (LC α)→List Value→Prop
 | [], []=>True
 | l::ls,u::us=>l.rel m x u∧XU m x ls us
 | _,_=>False
theorem zKX {α:Type} {m:Hp} {x:α}:∀ {ls:List (LC α)} {us:List Value},XU m x ls us→us.length=ls.length
 | [], [],_=>rfl
 | _::_,_::_,h=>by simp [zKX h.2]
 | [],_::_,h=>h.elim
 | _::_, [],h=>h.elim
theorem zJV {α:Type} {m:Hp} {x:α}:∀ {ls:List (LC α)} {us:List Value},XU m x ls us→∀ u∈us,u.oneCell'=true
 | [], [],_,u,hu=>by cases hu
 | l::ls,v::us,h,u,hu=>by
  rcases List.mem_cons.1 hu with rfl | hu
  ·cases l with
   | v f one=>rw [show u=f x from h.1]; exact one x
   | s E f=>obtain ⟨A,c,rfl,_⟩:=h.1; rfl
  ·exact zJV h.2 u hu
 | [],_::_,h,_,_=>h.elim
 | _::_, [],h,_,_=>h.elim
theorem LC.UX {α:Type} {m m':Hp} {x:α} (hm:Hp.le m m') {l:LC α} {u:Value} (h:l.rel m x u):l.rel m' x u:=by
 cases l with
 | v f one=>exact h
 | s E f=>obtain ⟨A,c,h1,h2⟩:=h; exact ⟨A,c,h1,(Sl E A c (f x)).mono _ _ hm h2⟩
theorem zHx {α:Type} {m m':Hp} {x:α} (hm:Hp.le m m'):∀ {ls:List (LC α)} {us:List Value},XU m x ls us→XU m' x ls us
 | [], [],_=>trivial
 | _::_,_::_,h=>⟨LC.UX hm h.1,zHx hm h.2⟩
 | [],_::_,h=>h.elim
 | _::_, [],h=>h.elim
def zT {α:Type} (ls:List (LC α)):FQ α where
 n:=ls.length
 rel m x cs:=XU m x ls cs
 len _ _ _ h:=zKX h
 one _ _ _ h:=zJV h
 mono _ _ _ _ hm h:=zHx hm h
def KH {α:Type}:List (LC α)→Type
 | []=>Unit
 | .v _ _::r=>KH r
 | .s _ _::r=>(Option Addr × Nat) × KH r
def tM {α:Type} (x:α):(ls:List (LC α))→KH ls→List Value
 | [],_=> []
 | .v f _::r,e=>f x::tM x r e
 | .s _ f::r,e=>.slice e.1.1 (f x).length e.1.2::tM x r e.2
def wX {α:Type} (x:α):(ls:List (LC α))→KH ls→List As
 | [],_=> []
 | .v _ _::r,e=>wX x r e
 | .s E f::r,e=>.ro (Sl E e.1.1 e.1.2 (f x))::wX x r e.2
theorem tL {α:Type} {x:α}:∀ (ls:List (LC α)) (e:KH ls),oS (wX x ls e)=true
 | [],_=>rfl
 | .v _ _::r,e=>tL r e
 | .s _ _::r,e=>tL r e.2
theorem XV {α:Type} {m:Hp} {x:α}:∀ {ls:List (LC α)} {us:List Value},XU m x ls us→∃ e:KH ls,us=tM x ls e∧∀ r,As.ro r∈wX x ls e→r.p m
 | [], [],_=>⟨(),O,fun _ h=>by cases h⟩
 | .v f one::ls,u::us,h=>by
  obtain ⟨e,h1,h2⟩:=XV h.2
  exact ⟨e,by rw [h1,show u=f x from h.1]; rfl,h2⟩
 | .s E f::ls,u::us,h=>by
  obtain ⟨A,c,rfl,hsl⟩:=h.1
  obtain ⟨e,h1,h2⟩:=XV h.2
  refine ⟨((A,c),e),by rw [h1]; rfl,fun r hr=>?_⟩
  rcases List.mem_cons.1 hr with hr | hr
  ·injection hr with hr; subst hr; exact hsl
  ·exact h2 r hr
 | [],_::_,h=>h.elim
 | .v _ _::_, [],h=>h.elim
 | .s _ _::_, [],h=>h.elim
theorem Py {α:Type} {m:Hp} {x:α}:∀ {ls:List (LC α)} (e:KH ls),(∀ r,As.ro r∈wX x ls e→r.p m)→XU m x ls (tM x ls e)
 | [],_,_=>trivial
 | .v f one::ls,e,h=>⟨O,Py (ls:=ls) e h⟩
 | .s E f::ls,e,h=>⟨⟨e.1.1,e.1.2,O,h _ (List.mem_cons_self ..)⟩,Py (ls:=ls) e.2 fun r hr=>h r (List.mem_cons_of_mem _ hr)⟩
theorem fD {α:Type} (x:α):∀ (ls:List (LC α)) (e:KH ls),(tM x ls e).length=ls.length
 | [],_=>rfl
 | .v _ _::r,e=>by simp [tM,fD x r e]
 | .s _ _::r,e=>by simp [tM,fD x r e.2]
theorem Yl {α:Type} (x:α):∀ (ls:List (LC α)) (e:KH ls),∀ u∈tM x ls e,u.oneCell'=true
 | [],_,_,hu=>by cases hu
 | .v f one::r,e,u,hu=>by
  rcases List.mem_cons.1 hu with rfl | hu
  ·exact one x
  ·exact Yl x r e u hu
 | .s _ f::r,e,u,hu=>by
  rcases List.mem_cons.1 hu with rfl | hu
  ·rfl
  ·exact Yl x r e.2 u hu
def pX {α:Type} (ls:List (LC α)) (ye:List (α × KH ls)):List (List Value):=ye.map fun p=>tM p.1 ls p.2
def iW {α:Type} (ls:List (LC α)):List (α × KH ls)→List As
 | []=> []
 | p::r=>wX p.1 ls p.2++iW ls r
theorem Ym {α:Type} (ls:List (LC α)) (ye:List (α × KH ls)):∀ r∈pX ls ye,r.length=ls.length∧∀ u∈r,u.oneCell'=true:=fun r hr=>by
 obtain ⟨p,_,rfl⟩:=List.mem_map.1 hr
 exact ⟨fD _ _ _,Yl _ _ _⟩
theorem zCr:∀ {F G:List As},oS F=true→oS G=true→oS (F++G)=true
 | [],_,_,h=>h
 | .ro _::F,_,h,k=>zCr (F:=F) h k
 | .res _::_,_,h,_=>by simp [oS] at h
theorem Yn {α:Type} (ls:List (LC α)):∀ (ye:List (α × KH ls)),oS (iW ls ye)=true
 | []=>rfl
 | p::r=>zCr (tL ls p.2) (Yn ls r)
theorem fO {α:Type} {ls:List (LC α)}:∀ {ye:List (α × KH ls)} {p:α × KH ls},p∈ye→∀ x∈wX p.1 ls p.2,x∈iW ls ye
 | q::r,p,h,x,hx=>by
  rcases List.mem_cons.1 h with rfl | h
  ·exact List.mem_append_left _ hx
  ·exact List.mem_append_right _ (fO h x hx)
theorem zGt {α:Type} {ls:List (LC α)} {ye:List (α × KH ls)} {m:Hp} (h:∀ r,As.ro r∈iW ls ye→r.p m):cN (zT ls) (ye.map (·.1)) (pX ls ye) m:=by
 refine ⟨by simp [pX],fun j x r hx hr=>?_⟩
 simp only [pX,List.getElem?_map,Option.map_eq_some_iff] at hx hr
 obtain ⟨p,hp,rfl⟩:=hx
 obtain ⟨p',hp',rfl⟩:=hr
 rw [hp] at hp'
 injection hp' with hp'
 subst hp'
 exact Py p.2 fun r hr=>h r (fO (List.mem_of_getElem? hp) _ hr)
def yU {α:Type} (E:FQ α) (e:Nat) (A:Option Addr) (c:Nat) (xs:List α):PZ where
 gs:=lO A c
 p _:=True
 loc _ _ _ h:=h
 q m z:=∃ rows,nV E.n e A xs.length c rows m∧cN E xs rows z
 QA m m' z z' hm hz h:=by
  obtain ⟨rows,h1,h2⟩:=h
  exact ⟨rows,(Own E.n e A xs.length c rows).loc m m' hm h1,(dO E xs rows).mono _ _ hz h2⟩
section
variable {P:Program} [T:FP P] {w0:World} {nt:Nat} {Γ Γ':Env} {F F' G R:List As} {Q:Exit→Act→World→Prop} {ops:Array Oper} {rest:List Oper}
variable {d:Nat} {op:Op} {ty:Nat} {pos:String} {af:Array Edge} {X:List Oper→Act→World→Prop}
theorem pS:∀ {G F:List As},oS G=true→yB (G++F)=yB F:=fun {G F} h=>by
 rw [sK,nQ fun x hx=>by obtain ⟨r,rfl⟩:=mK h x hx; rfl]
 rfl
theorem Sat.JW {w:World}:∀ (G:List As),oS G=true→(∀ r,As.ro r∈G→r.p (GV (yB F) w))→Sat F w→Sat (G++F) w
 | [],_,_,h=>h
 | .ro r::G,hro,hG,h=>by
  have h2:=Sat.JW G hro (fun r hr=>hG r (List.mem_cons_of_mem _ hr)) h
  refine h2.FI r ?_
  rw [pS (show oS G=true from hro)]
  exact hG r (List.mem_cons_self ..)
 | .res _::_,hro,_,_=>by simp [oS] at hro
theorem nU.ros {G F:List As} (h:nU G F) {w:World} (hf:Sat F w):∀ r,As.ro r∈G→r.p (GV (yB F) w):=fun r hr=>hf.ro (h.mem _ hr)
theorem Sat.UY {α:Type} {E:FQ α} {e c:Nat} {A:Option Addr} {xs:List α} {w:World} (h:Sat (.res (yU E e A c xs)::F) w):∃ rows,cN E xs rows (GV (yB (.res (yU E e A c xs)::F)) w)∧Sat (.res (Own E.n e A xs.length c rows)::F) w:=by
 obtain ⟨rows,h1,h2⟩:=h.KJ (r:=yU E e A c xs) (List.mem_cons_self ..)
 refine ⟨rows,h2,h.nodup,fun x hx=>?_⟩
 cases hx with
 | head=>exact ⟨(h.all _ (List.mem_cons_self ..)).1,h1,trivial⟩
 | tail _ hx=>exact h.all _ (List.mem_cons_of_mem _ hx)
theorem Sat.TF {α:Type} {E:FQ α} {e c n:Nat} {A:Option Addr} {xs:List α} {rows:List (List Value)} {w:World} (h:Sat (.res (Own E.n e A n c rows)::F) w) (hn:n=xs.length) (hr:cN E xs rows (GV (yB (.res (Own E.n e A n c rows)::F)) w)):
  Sat (.res (yU E e A c xs)::F) w:=by
 subst hn
 refine ⟨h.nodup,fun x hx=>?_⟩
 cases hx with
 | head=>exact ⟨(h.all _ (List.mem_cons_self ..)).1,trivial,rows,(h.all _ (List.mem_cons_self ..)).2.1,hr⟩
 | tail _ hx=>exact h.all _ (List.mem_cons_of_mem _ hx)
theorem Sat.MK {α:Type} {w:World} (h:Sat F w) (E:FQ α) (e:Nat):Sat (.res (yU E e none 0 [])::F) w:=
 h.GH (Ext.refl w) (yU E e none 0 []) (show (lO none 0).Nodup from rN _ _) (fun k hk=>absurd ((lJ (A:=none) (c:=0)).1 hk).1 (by omega)) trivial ⟨[],nV.nil _ _ _,O,fun j x r hx=>by simp at hx⟩
theorem Sat.IJ {α:Type} {E:FQ α} {e c:Nat} {A:Option Addr} {xs:List α} {w:World} (h:Sat (.res (yU E e A c xs)::F) w):Sat (.ro (Sl E A c xs)::F) w:=by
 obtain ⟨rows,h1,h2⟩:=h.UY
 have h3:Sat (.res (Own E.n e A xs.length c rows):: .ro (dO E xs rows)::F) w:=(h2.FI (dO E xs rows) h1).perm (List.Perm.swap ..)
 have h4:=Sat.UQ (E:=E) (xs:=xs) h3 O fun m hm=>hm _ (List.mem_cons_self ..) _ O
 exact (tI.k (tI.d tI.z)).sat h4
theorem Sat.OU {α:Type} {ls:List (LC α)} {g e:Nat} {cs:List Value} {ys:List α} {w:World} (ye:List (α × KH ls)) (hcs:(pX ls ye).flatten=cs) (hys:ye.map (·.1)=ys) (hm:Nat.ble ye.length 16777216=true) (hin:nU (iW ls ye) F) (h:Sat (.res (Box g e cs)::F) w):
  Sat (.res (yU (zT ls) e (some ⟨g,0,none⟩) ys.length ys)::F) w:=by
 subst hys
 have h2:Sat (.res (Own ls.length e (some ⟨g,0,none⟩) ye.length ye.length (pX ls ye))::F) w:=
  Sat.SX hcs (by simp [pX]) (Ym ls ye) (by have:=Nat.le_of_ble_eq_true hm; simp only [maxLen]; omega) h
 have e1:(ye.map (·.1)).length=ye.length:=by simp
 rw [e1]
 exact h2.TF e1.symm (zGt fun r hr=>h2.ro (List.mem_cons_of_mem _ (hin.mem _ hr)))
theorem St.ZA [W:Walk P ops X] {α:Type} {ls:List (LC α)} {t e:Nat} {i j:TI} {x ix:Operand} {A:Option Addr} {n c:Nat} {kk:IntKind} {q:Int} {xs:List α} {y:α} (hy:BP xs q=some y) (hd:Nat.blt d nt=true) (hx:ev Γ x=some (.slice A n c)) (hq:ev Γ ix=some (.int kk q))
  (hm:As.ro (Sl (zT ls) A c xs)∈F) (hlen:n=xs.length) (hi:yK T.tt t=some i) (hdesc:i.desc= .slice e) (hj:yK T.tt e=some j) (hn:j.size=ls.length)
  (k:∀ b o (ex:KH ls),St w0 nt ((d, .pointer (some ⟨b,o,none⟩))::Γ) (.ro (oU b o (tM y ls ex))::(wX y ls ex++F)) (X rest)):St w0 nt Γ F (X (⟨some d, .indexAddr t x ix,ty,pos,af,none⟩::rest)):=
 St.idx (zT ls) hd hx hq hm hlen hy hi hdesc hj hn fun b o cs a w hs hdf ha hf hw=>by
  have hrel:XU (GV (yB F) w) y ls cs:=hf.ro (r:=Rel (zT ls) y cs) (by simp)
  obtain ⟨ex,rfl,hex⟩:=XV hrel
  have h0:Sat F w:=hf.tail.tail
  have hc:=hf.ro (r:=oU b o (tM y ls ex)) (by simp)
  refine k b o ex a w hs hdf ha (Sat.FI (Sat.JW _ (tL ls ex) hex h0) _ ?_) hw
  rw [pS (tL ls ex)]
  exact hc
theorem St.TR [W:Walk P ops X] {α:Type} {E:FQ α} {t e e':Nat} {i j:TI} {x ix:Operand} {A:Option Addr} {n c:Nat} {kk:IntKind} {q:Int} {xs:List α} {y:α} (hy:BP xs q=some y) (hd:Nat.blt d nt=true) (hx:ev Γ x=some (.slice A n c)) (hq:ev Γ ix=some (.int kk q))
    (hm:As.res (yU E e' A c xs)∈F) (hlen:n=xs.length) (hi:yK T.tt t=some i) (hdesc:i.desc= .slice e) (hj:yK T.tt e=some j) (hn:j.size=E.n)
    (k:∀ g,A=some ⟨g,0,none⟩→St w0 nt ((d, .pointer (some ⟨g,q.toNat*E.n,none⟩))::Γ) F (X rest)):St w0 nt Γ F (X (⟨some d, .indexAddr t x ix,ty,pos,af,none⟩::rest)):=
  fun a w hs hdf ha hf hw=>by
    obtain ⟨h0,h1,_⟩:=uR hy
    obtain ⟨rows,hown,_⟩:=hf.KJ hm
    subst hlen
    rcases hown.2.2 with ⟨h,_⟩ | ⟨g,cur,fr,_,hA,_⟩
    · omega
    · subst hA
      obtain ⟨dd,hu,hdd⟩:=T.ok.desc hi
      have hadd:(⟨g,0,none⟩:Addr).add (q.toNat*E.n)=⟨g,q.toNat*E.n,none⟩:=uW g _
      refine W.val _ _ _ _ _ (xD O _) (fun w' he=>?_) (k g O _ w (by simp [Act.put,hs]) hdf (ha.put (hs▸Nat.le_of_ble_eq_true hd)) hf hw)
      simp [execOp,Instr.indexAt,ha.eval hx,ha.eval hq,asIntOf,run_underlying hu,TD.of_slice (hdd.trans hdesc),yI T.ok hj,hn,h0,h1,hadd]
theorem St.UZ {X:Act→World→Prop} {α:Type} {ls:List (LC α)} {A:Option Addr} {c:Nat} {xs:List α} {q:Int} {y:α} (hm:As.ro (Sl (zT ls) A c xs)∈F) (hy:BP xs q=some y) (k:∀ b o (ex:KH ls),(∃ oA,A=some ⟨b,oA,none⟩∧o=oA+q.toNat*ls.length)→St w0 nt Γ (.ro (oU b o (tM y ls ex))::(wX y ls ex++F)) X):St w0 nt Γ F X:=
  fun a w hs hdf ha hf hw=>by
    obtain ⟨h0,h1,h2⟩:=uR hy
    have hsl:=hf.ro hm
    cases A with
    | none=>
      have:=hsl.2.2.1 O
      subst this
      simp at h2
    | some ad=>
      obtain ⟨hspot,cs,hrel,hc⟩:=hsl.2.2.2 ad rfl _ _ h2
      obtain ⟨ex,rfl,hex⟩:=XV hrel
      obtain ⟨b,o,s⟩:=ad
      simp only at hspot
      subst hspot
      refine k b _ ex ⟨o,O,O⟩ a w hs hdf ha (Sat.FI (Sat.JW _ (tL ls ex) hex hf) _ ?_) hw
      rw [pS (tL ls ex)]
      exact hc
theorem St.RI {X:Act→World→Prop} {α:Type} {E:FQ α} {A:Option Addr} {c e:Nat} {xs:List α} {q:Int} {y:α} (hm:As.res (yU E e A c xs)∈F) (hy:BP xs q=some y) (k:∀ g,A=some ⟨g,0,none⟩→St w0 nt Γ F X):St w0 nt Γ F X:=
 fun a w hs hdf ha hf hw=>by
  obtain ⟨h0,h1,_⟩:=uR hy
  obtain ⟨rows,hown,_⟩:=hf.KJ hm
  rcases hown.2.2 with ⟨h,_⟩ | ⟨g,cur,fr,_,hA,_⟩
  ·omega
  ·exact k g hA a w hs hdf ha hf hw
theorem Rd.OC {α:Type} {t e n':Nat} {i j:TI} {x ix:Operand} {n c g:Nat} {kk:IntKind} {q:Int} {xs:List α} {y:α} (hy:BP xs q=some y) (hx:ev Γ x=some (.slice (some ⟨g,0,none⟩) n c)) (hq:ev Γ ix=some (.int kk q))
  (hlen:n=xs.length) (hi:yK T.tt t=some i) (hdesc:i.desc= .slice e) (hj:yK T.tt e=some j) (hn:j.size=n'):Rd P F Γ (.indexAddr t x ix) (.pointer (some ⟨g,q.toNat*n',none⟩)):=
 fun a w d ty pos af gg ha hf=>by
  obtain ⟨h0,h1,h2⟩:=uR hy
  subst hlen
  obtain ⟨dd,hu,hdd⟩:=T.ok.desc hi
  have hadd:(⟨g,0,none⟩:Addr).add (q.toNat*n')=⟨g,q.toNat*n',none⟩:=uW g _
  simp [execOp,Instr.indexAt,ha.eval hx,ha.eval hq,asIntOf,run_underlying hu,TD.of_slice (hdd.trans hdesc),yI T.ok hj,hn,h0,h1,hadd]
theorem Rd.ZA {α:Type} {t e n':Nat} {i j:TI} {x ix:Operand} {A:Option Addr} {n c:Nat} {kk:IntKind} {q:Int} {xs:List α} {y:α} {b o:Nat} (hA:∃ oA,A=some ⟨b,oA,none⟩∧o=oA+q.toNat*n') (hy:BP xs q=some y) (hx:ev Γ x=some (.slice A n c)) (hq:ev Γ ix=some (.int kk q))
    (hlen:n=xs.length) (hi:yK T.tt t=some i) (hdesc:i.desc= .slice e) (hj:yK T.tt e=some j) (hn:j.size=n'):Rd P F Γ (.indexAddr t x ix) (.pointer (some ⟨b,o,none⟩)):=
  fun a w d ty pos af gg ha hf=>by
    obtain ⟨oA,rfl,rfl⟩:=hA
    obtain ⟨h0,h1,h2⟩:=uR hy
    subst hlen
    obtain ⟨dd,hu,hdd⟩:=T.ok.desc hi
    have hadd:(⟨b,oA,none⟩:Addr).add (q.toNat*n')=⟨b,oA+q.toNat*n',none⟩:=by
      unfold Addr.add
      split
      · rename_i hz; rw [hz]; rfl
      · rfl
    simp [execOp,Instr.indexAt,ha.eval hx,ha.eval hq,asIntOf,run_underlying hu,TD.of_slice (hdd.trans hdesc),yI T.ok hj,hn,h0,h1,hadd]
theorem zLh {α:Type} {E:FQ α} {xs:List α} {rows:List (List Value)} {m:Hp} {q:Int} {y:α} (h:cN E xs rows m) (hy:BP xs q=some y):∃ row,rows[q.toNat]? =some row∧E.rel m y row:=by
 obtain ⟨h0,h1,h2⟩:=uR hy
 have hl:q.toNat<rows.length:=by rw [h.1]; omega
 exact ⟨rows[q.toNat],List.getElem?_eq_getElem hl,h.2 _ _ _ h2 (List.getElem?_eq_getElem hl)⟩
theorem St.OI [W:Walk P ops X] {α:Type} {ls:List (LC α)} {t e c g p:Nat} {x:Operand} {q:Int} {y:α} (off:Nat) {xs:List α} (v:KH ls→Value) (hy:BP xs q=some y) (hd:Nat.blt d nt=true) (hx:ev Γ x=some (.pointer (some ⟨g,p,none⟩)))
  (hm:As.res (yU (zT ls) e (some ⟨g,0,none⟩) c xs)∈F) (hpp:p=q.toNat*ls.length+off) (hv:∀ ex,pV T.tt t (tM y ls ex) off=some (v ex))
  (k:∀ ex,St w0 nt ((d,v ex)::Γ) (wX y ls ex++F) (X rest)):St w0 nt Γ F (X (⟨some d, .load t x,ty,pos,af,none⟩::rest)):=
 fun a w hs hdf ha hf hw=>by
  obtain ⟨rows,hown,hrel⟩:=hf.KJ hm
  obtain ⟨row,hr,hrow⟩:=zLh hrel hy
  obtain ⟨ex,rfl,hex⟩:=XV hrow
  have hlt:=(hf.all _ hm).1
  refine W.val _ _ _ _ (v ex) (xD O _) (fun w' he=>pL T.ok (by rw [ha.eval hx,hpp]) (hv ex) (dK ((Own ls.length e (some ⟨g,0,none⟩) xs.length c rows).loc (hp w) (hp w') (fun k hk=>(he.block k (hlt k hk)).symm) hown) hr) _ _) ?_
  exact k ex _ w (by simp [Act.put,hs]) hdf (ha.put (hs▸Nat.le_of_ble_eq_true hd)) (Sat.JW _ (tL ls ex) hex hf) hw
theorem St.Ci {α:Type} {ls:List (LC α)} {t e c g p:Nat} {x y:Operand} {q:Int} {u u':α} (off:Nat) {i:TI} {xs zs:List α} {v:Value} (RJ:KH ls→KH ls) (hu:BP xs q=some u) (hz:rJ xs q u'=some zs) (hx:ev Γ x=some (.pointer (some ⟨g,p,none⟩))) (hy:ev Γ y=some v)
    (hD:Del F (.res (yU (zT ls) e (some ⟨g,0,none⟩) c xs)) G) (hpp:p=q.toNat*ls.length+off) (hi:yK T.tt t=some i) (hsz:Nat.beq (zc v).length i.size=true) (h1:((zc v).all fun u=>u.oneCell')=true)
    (hs:∀ ex,vZ (tM u ls ex) off (zc v) some=some (tM u' ls (RJ ex))) (hin:∀ ex,nU (wX u' ls (RJ ex)) (wX u ls ex++G))
    (k:St w0 nt Γ (.res (yU (zT ls) e (some ⟨g,0,none⟩) c zs)::G) (wpList P ops Q rest)):St w0 nt Γ F (wpList P ops Q (⟨none, .store t x y,ty,pos,af,none⟩::rest)):=
  fun a w hs' hdf ha hf hw=>by
    obtain ⟨rows,hrel,hf2⟩:=(hf.front hD).UY
    obtain ⟨row,hr,hrow⟩:=zLh hrel hu
    obtain ⟨ex,rfl,hex⟩:=XV hrow
    have hf3:Sat (wX u ls ex++(.res (Own (zT ls).n e (some ⟨g,0,none⟩) xs.length c rows)::G)) w:=Sat.JW _ (tL ls ex) hex hf2
    have hf4:Sat (.ro (dO (zT ls) xs rows):: .res (Own (zT ls).n e (some ⟨g,0,none⟩) xs.length c rows)::(wX u ls ex++G)) w:=by
      refine Sat.FI (hf3.perm (List.perm_middle)) (dO (zT ls) xs rows) ?_
      have hb:yB (.res (Own (zT ls).n e (some ⟨g,0,none⟩) xs.length c rows)::(wX u ls ex++G))=yB (.res (yU (zT ls) e (some ⟨g,0,none⟩) c xs)::G):=by
        simp only [yB,pS (tL ls ex)]
        rfl
      rw [hb]
      exact hrel
    refine St.UN (F:=.ro (dO (zT ls) xs rows):: .res (Own ls.length e (some ⟨g,0,none⟩) xs.length c rows)::(wX u ls ex++G)) (G:=.ro (dO (zT ls) xs rows)::(wX u ls ex++G)) off hx hy (.s .z) hr hpp hi hsz h1 (hs ex) ?_ a w hs' hdf ha hf4 hw
    intro a2 w2 hs2 VA ha2 hf5 hw2
    refine k a2 w2 hs2 VA ha2 ?_ hw2
    have hR:cN (zT ls) xs rows (GV (yB (.res (Own ls.length e (some ⟨g,0,none⟩) xs.length c (rows.set q.toNat (tM u' ls (RJ ex)))):: .ro (dO (zT ls) xs rows)::(wX u ls ex++G))) w2):=
      hf5.ro (r:=dO (zT ls) xs rows) (by simp)
    unfold rJ at hz
    split at hz
    · injection hz with hz
      subst hz
      rename_i hq
      have h6:Sat (.res (yU (zT ls) e (some ⟨g,0,none⟩) c (xs.set q.toNat u')):: .ro (dO (zT ls) xs rows)::(wX u ls ex++G)) w2:=by
        refine Sat.TF (E:=zT ls) hf5 (by simp) ⟨by simp [hR.1],fun j x r hx hr2=>?_⟩
        rw [List.getElem?_set] at hx hr2
        by_cases hj:q.toNat=j
        · subst hj
          rw [if_pos O] at hx hr2
          split at hx
          · split at hr2
            · injection hx with hx
              injection hr2 with hr2
              subst hx
              subst hr2
              refine Py (RJ ex) fun r hrm=>hf5.ro (r:=r) ?_
              exact List.mem_cons_of_mem _ (List.mem_cons_of_mem _ ((hin ex).mem _ hrm))
            · cases hr2
          · cases hx
        · rw [if_neg hj] at hx hr2
          exact hR.2 j x r hx hr2
      refine h6.JP ?_ fun y hy=>?_
      · have := h6.nodup
        simpa [yB,pS (tL ls ex),As.gs] using this
      · rcases List.mem_cons.1 hy with rfl | hy
        · exact List.mem_cons_self ..
        · exact List.mem_cons_of_mem _ (List.mem_cons_of_mem _ (List.mem_append_right _ hy))
    · cases hz
theorem St.LW {α:Type} {E:FQ α} {t t2 e m c n:Nat} {i i2 j:TI} {s x:Operand} {A:Option Addr} {xv:Value} {b:Nat} {xs ys zs:List α} (hz:Go.Proofs.YtplchdlgdjcojaaGreatDoor.app b xs ys=some zs) (hd:Nat.blt d nt=true) (hs:ev Γ s=some (.slice A n c)) (hx:ev Γ x=some xv)
    (hD:Del F (.res (yU E e A c xs)) G) (hlen:n=xs.length) (hi:yK T.tt t=some i) (hdesc:i.desc= .slice e) (hj:yK T.tt e=some j) (hsz:j.size=E.n) (hby:j.bytes=b) (hzs:Nat.beq (zc j.zero).length E.n=true)
    (hm:m=ys.length) (hsrc:∀ w,Sat F w→∃ rows,cN E ys rows (GV (yB F) w)∧(∀ r∈rows,r.length=E.n∧∀ u∈r,u.oneCell'=true)∧aR P E.n xv m rows.flatten w) (hi2:yK T.tt t2=some i2) (hd2:au i2.desc=true)
    (k:∀ A' c',St w0 nt ((d, .slice A' zs.length c')::Γ) (.res (yU E e A' c' zs)::G) (wpList P ops Q rest)):
    St w0 nt Γ F (wpList P ops Q (⟨some d, .call { callee:=.builtin .append,args:=#[s,x],argTypes:=#[t,t2] },ty,pos,af,none⟩::rest)):=
  fun a w hs' hdf ha hf hw=>by
    obtain ⟨rfl,h2,h3⟩:=Pn hz
    subst hlen; subst hm; subst hby
    obtain ⟨news,hn1,hn2,hn3⟩:=hsrc w hf
    have QV:=hf.front hD
    obtain ⟨rows,hrel,hf2⟩:=QV.UY
    have hb:yB F=yB F:=rfl
    have hn1':cN E ys news (GV (yB (.res (Own E.n e A xs.length c rows)::G)) w):=(dO E ys news).mono _ _ (cX w fun kk hk=>(zEh hD.perm).mem_iff.2 hk) hn1
    have hf3:Sat (.ro (dO E ys news):: .ro (dO E xs rows):: .res (Own E.n e A xs.length c rows)::G) w:=(hf2.FI (dO E xs rows) hrel).FI (dO E ys news) hn1'
    refine zIq (F:=.ro (dO E ys news):: .ro (dO E xs rows):: .res (Own E.n e A xs.length c rows)::G) news hs' hdf ha hf3 hw hd hs hx (CS 2 O) hi hdesc hj hsz hzs hn3 O hn1.1 hn2 (by simpa [maxLen] using h3) h2 hi2 hd2 fun A' c'=>?_
    intro a2 w2 hs2 VA ha2 hf5 hw2
    have e1:(xs++ys).length=xs.length+ys.length:=by simp
    refine (e1▸k A' c') a2 w2 hs2 VA ha2 ?_ hw2
    have hR1:=hf5.ro (r:=dO E xs rows) (by simp)
    have hR2:=hf5.ro (r:=dO E ys news) (by simp)
    have h6:Sat (.res (yU E e A' c' (xs++ys)):: .ro (dO E ys news):: .ro (dO E xs rows)::G) w2:=by
      refine Sat.TF (E:=E) hf5 e1.symm ⟨by simp [hR1.1,hR2.1],fun j x r hx hr=>?_⟩
      by_cases hj:j<xs.length
      · rw [List.getElem?_append_left hj] at hx
        rw [List.getElem?_append_left (by rw [hR1.1]; exact hj)] at hr
        exact hR1.2 j x r hx hr
      · rw [List.getElem?_append_right (by omega)] at hx
        rw [List.getElem?_append_right (by rw [hR1.1]; omega),hR1.1] at hr
        exact hR2.2 _ x r hx hr
    exact (tI.k (tI.d (tI.d tI.z))).sat h6
theorem cV {α:Type} {ls:List (LC α)} {g e m c:Nat} {cs:List Value} {ys:List α} (ye:List (α × KH ls)) (hm:As.res (Box g e cs)∈F) (hcs:(pX ls ye).flatten=cs) (hys:ye.map (·.1)=ys) (hl:m=ys.length) (hin:nU (iW ls ye) F):
  ∀ w,Sat F w→∃ rows,cN (zT ls) ys rows (GV (yB F) w)∧(∀ r∈rows,r.length=(zT ls).n∧∀ u∈r,u.oneCell'=true)∧aR P (zT ls).n (.slice (some ⟨g,0,none⟩) m c) m rows.flatten w:=fun w hf=>by
 subst hys
 subst hcs
 subst hl
 have hok:=Ym ls ye
 refine ⟨pX ls ye,zGt (hin.ros hf),hok,zMQ hm (by rw [wZ hok]; simp [pX,zT]) ?_ w hf⟩
 rw [List.all_eq_true]
 intro u hu
 obtain ⟨r,hr,hur⟩:=List.mem_flatten.1 hu
 exact (hok r hr).2 u hur
theorem zMM {α:Type} {ls:List (LC α)} {ye:List (α × KH ls)} {ys:List α} {q:Int} {y:α} (hys:ye.map (·.1)=ys) (hy:BP ys q=some y):0≤q∧q<(ye.length:Int)∧∃ ex,ye[q.toNat]? =some (y,ex):=by
 subst hys
 obtain ⟨h0,h1,h2⟩:=uR hy
 simp only [List.length_map,List.getElem?_map,Option.map_eq_some_iff] at h1 h2
 obtain ⟨⟨y',ex⟩,h3,h4⟩:=h2
 subst h4
 exact ⟨h0,h1,ex,h3⟩
theorem zHZ {α:Type} {ls:List (LC α)} {ye:List (α × KH ls)} {n:Nat} {y:α} {ex:KH ls} (h:ye[n]? =some (y,ex)):∃ pre post,(pX ls ye).flatten=pre++(tM y ls ex++post)∧pre.length=n*ls.length:=by
 induction ye generalizing n with
 | nil=>simp at h
 | cons p r ih=>
  cases n with
  | zero=>
   simp at h
   subst h
   exact ⟨[],(pX ls r).flatten,by simp [pX],by simp⟩
  | succ n=>
   obtain ⟨pre,post,h1,h2⟩:=ih (by simpa using h)
   refine ⟨tM p.1 ls p.2++pre,post,?_,?_⟩
   ·show tM p.1 ls p.2++(pX ls r).flatten=_
    rw [h1]
    simp
   ·rw [List.length_append,fD,h2,Nat.add_mul]
    omega
theorem St.TG [W:Walk P ops X] {α:Type} {t e len g o sz:Nat} {i j:TI} {x ix:Operand} {kk:IntKind} {q:Int} {ys:List α} {y:α} (hy:BP ys q=some y) (hd:Nat.blt d nt=true) (hx:ev Γ x=some (.pointer (some ⟨g,o,none⟩))) (hq:ev Γ ix=some (.int kk q))
  (hi:yK T.tt t=some i) (hdesc:i.desc= .array len e) (hlen:len=ys.length) (hj:yK T.tt e=some j) (hn:j.size=sz)
  (k:St w0 nt ((d, .pointer (some ⟨g,o+q.toNat*sz,none⟩))::Γ) F (X rest)):St w0 nt Γ F (X (⟨some d, .indexAddr t x ix,ty,pos,af,none⟩::rest)):=by
 obtain ⟨h0,h1,_⟩:=uR hy
 refine St.val hd (fun a w ha _=>?_) k
 obtain ⟨dd,hu,hdd⟩:=T.ok.desc hi
 have hadd:(⟨g,o,none⟩:Addr).add (q.toNat*sz)=⟨g,o+q.toNat*sz,none⟩:=by
  unfold Addr.add
  split
  ·rename_i h; rw [h]; rfl
  ·rfl
 simp [execOp,ha.eval hx,ha.eval hq,Instr.indexAt,asIntOf,run_underlying hu,TD.of_array (hdd.trans hdesc),h0,hlen,h1,Instr.sureAddr,yI T.ok hj,hn,hadd]
theorem St.UH [W:Walk P ops X] {α:Type} {ls:List (LC α)} {t g t' p o:Nat} {x:Operand} {q:Int} {cs:List Value} (off:Nat) (pre post:List Value) (ye:List (α × KH ls)) {ys:List α} {y:α} (v:KH ls→Value) (hy:BP ys q=some y) (hd:Nat.blt d nt=true) (hx:ev Γ x=some (.pointer (some ⟨g,p,none⟩)))
  (hm:As.res (Box g t' cs)∈F) (hcs:pre++((pX ls ye).flatten++post)=cs) (ho:pre.length=o) (hys:ye.map (·.1)=ys) (hin:nU (iW ls ye) F) (hpp:p=o+q.toNat*ls.length+off) (hv:∀ ex,pV T.tt t (tM y ls ex) off=some (v ex))
  (k:∀ ex,St w0 nt ((d,v ex)::Γ) (wX y ls ex++F) (X rest)):St w0 nt Γ F (X (⟨some d, .load t x,ty,pos,af,none⟩::rest)):=
 fun a w hs hdf ha hf hw=>by
  obtain ⟨h0,hlt,ex,hex⟩:=zMM hys hy
  obtain ⟨pre2,QF,hp1,hp2⟩:=zHZ hex
  have MV:∀ r,As.ro r∈wX y ls ex→r.p (GV (yB F) w):=fun r hr=>hf.ro (hin.mem _ (fO (List.mem_of_getElem? hex) _ hr))
  refine W.val _ _ _ _ (v ex) (xD O _) (fun w' he=>pL (o:=o+q.toNat*ls.length) T.ok (by rw [ha.eval hx,hpp]) (hv ex) (fun i u hu=>?_) _ _) (k ex _ w (by simp [Act.put,hs]) hdf (ha.put (hs▸Nat.le_of_ble_eq_true hd)) (Sat.JW _ (tL ls ex) MV hf) hw)
  refine Box.cell ((hf.ext he).res hm) ?_
  have hi:=(List.getElem?_eq_some_iff.1 hu).1
  rw [←hcs,List.getElem?_append_right (by omega),hp1,List.append_assoc,List.getElem?_append_right (by omega),List.append_assoc,List.getElem?_append_left (by omega),←hu]
  congr 1
  omega
theorem St.dm {α:Type} {ls:List (LC α)} {t g t' p o:Nat} {x y:Operand} {q:Int} {u u':α} {cs:List Value} (off:Nat) {i:TI} (pre post:List Value) (ye:List (α × KH ls)) {ys zs:List α} {v:Value} (RJ:KH ls→KH ls) (hu:BP ys q=some u) (hz:rJ ys q u'=some zs) (hx:ev Γ x=some (.pointer (some ⟨g,p,none⟩))) (hy:ev Γ y=some v)
    (hD:Del F (.res (Box g t' cs)) G) (hcs:pre++((pX ls ye).flatten++post)=cs) (ho:pre.length=o) (hys:ye.map (·.1)=ys) (hin:nU (iW ls ye) G) (hpp:p=o+q.toNat*ls.length+off) (hi:yK T.tt t=some i) (hsz:Nat.beq (zc v).length i.size=true) (h1:((zc v).all fun u=>u.oneCell')=true)
    (hs:∀ ex,vZ (tM u ls ex) off (zc v) some=some (tM u' ls (RJ ex))) (hin':∀ ex,nU (wX u' ls (RJ ex)) (wX u ls ex++G))
    (k:∀ Yo:List (α × KH ls),Yo.map (·.1)=zs→St w0 nt Γ (.res (Box g t' (pre++((pX ls Yo).flatten++post)))::(iW ls Yo++G)) (wpList P ops Q rest)):St w0 nt Γ F (wpList P ops Q (⟨none, .store t x y,ty,pos,af,none⟩::rest)):=
  fun a w hs' hdf ha hf hw=>by
    obtain ⟨h0,hlt,ex,hex⟩:=zMM hys hu
    have hf':=hf.front hD
    have MV:∀ r,As.ro r∈wX u ls ex→r.p (GV (yB (.res (Box g t' cs)::G)) w):=fun r hr=>hf'.ro (List.mem_cons_of_mem _ (hin.mem _ (fO (List.mem_of_getElem? hex) _ hr)))
    obtain ⟨pre2,QF,hp1,hp2⟩:=zHZ hex
    have hqn:q.toNat<ye.length:=(List.getElem?_eq_some_iff.1 hex).1
    -- the new rows
    have hf3:Sat (.res (Box g t' cs)::(wX u ls ex++G)) w:=(Sat.JW _ (tL ls ex) MV hf').perm List.perm_middle
    have hlen1:(tM u ls ex).length=ls.length:=fD _ _ _
    have hse:=jG _ _ _ _ _ (hs ex)
    have VB:=hse.2
    injection VB with VB
    have XW:∀ (l:List Value) (n:Nat) (vs r:List Value),n+vs.length≤l.length→r=l.take n++vs++l.drop (n+vs.length)→vZ l n vs some=some r:=by
      have gen:∀ (l:List Value) (n:Nat) (vs:List Value) (k:List Value→Option (List Value)),n+vs.length≤l.length→vZ l n vs k=k (l.take n++vs++l.drop (n+vs.length)):=by
        intro l
        induction l with
        | nil=>intro n vs k h; simp at h; obtain ⟨rfl,rfl⟩:=h; simp [vZ]
        | cons c l ih=>
          intro n vs k h
          cases n with
          | zero=>
            cases vs with
            | nil=>simp [vZ]
            | cons v vs=>simp only [vZ]; rw [ih 0 vs _ (by simp at h ⊢; omega)]; simp
          | succ n=>
            simp only [vZ]
            rw [ih n vs _ (by simp at h ⊢; omega)]
            have:n+1+vs.length=(n+vs.length)+1:=by omega
            simp [this]
      intro l n vs r h hr
      rw [gen l n vs _ h,hr]
    have hye:(ye.set q.toNat (u',RJ ex)).map (·.1)=zs:=by
      unfold rJ at hz
      split at hz
      · injection hz with hz
        rw [←hz,←hys,List.map_set]
      · cases hz
    have hset:(pX ls (ye.set q.toNat (u',RJ ex))).flatten=pre2++(tM u' ls (RJ ex)++QF):=by
      have e1:pX ls (ye.set q.toNat (u',RJ ex))=(pX ls ye).set q.toNat (tM u' ls (RJ ex)):=by simp [pX,List.map_set]
      have hrow:(pX ls ye)[q.toNat]? =some (tM u ls ex):=by simp [pX,hex]
      rw [e1,Xw (sz:=ls.length) (pX ls ye) q.toNat _ _ (fun r hr=>(Ym ls ye r hr).1) hrow (fD _ _ _),hp1,←hp2]
      rw [List.take_left,List.append_assoc]
      congr 1
      congr 1
      rw [←List.append_assoc,List.drop_append,List.drop_of_length_le (by simp [hlen1])]
      simp [hlen1]
    have hcs':vZ cs p (zc v) some=some (pre++((pX ls (ye.set q.toNat (u',RJ ex))).flatten++post)):=by
      refine XW _ _ _ _ ?_ ?_
      · rw [← hcs, hp1]
        simp only [List.length_append,hlen1]
        have:=hse.1
        rw [hlen1] at this
        omega
      · have hl1 := hse.1
        rw [hlen1] at hl1
        have Yp:p=pre.length+(pre2.length+off):=by omega
        rw [hset,←VB,←hcs,hp1,Yp]
        have e3:(pre++(pre2++(tM u ls ex++QF)++post)).take (pre.length+(pre2.length+off))=pre++(pre2++(tM u ls ex).take off):=by
          rw [List.take_length_add_append,List.append_assoc,List.take_length_add_append,List.append_assoc,List.take_append_of_le_length (by omega)]
        have e4:(pre++(pre2++(tM u ls ex++QF)++post)).drop (pre.length+(pre2.length+off)+(zc v).length)=(tM u ls ex).drop (off+(zc v).length)++(QF++post):=by
          rw [Nat.add_assoc,List.drop_length_add_append,List.append_assoc,Nat.add_assoc,List.drop_length_add_append,List.append_assoc,List.drop_append_of_le_length (by omega)]
        rw [e3,e4]
        simp only [List.append_assoc]
    refine St.store (F:=.res (Box g t' cs)::(wX u ls ex++G)) p hx hy O hi hsz h1 .z hcs' ?_ a w hs' hdf ha hf3 hw
    intro a2 w2 hs2 VA ha2 hf5 hw2
    refine k _ hye a2 w2 hs2 VA ha2 ?_ hw2
    have hin2:∀ x∈iW ls (ye.set q.toNat (u',RJ ex)),x∈wX u ls ex++G:=by
      intro x hx
      have:∀ (l:List (α × KH ls)),(∀ p∈l,∀ x∈wX p.1 ls p.2,x∈wX u ls ex++G)→x∈iW ls l→x∈wX u ls ex++G:=by
        intro l
        induction l with
        | nil=>intro _ h; cases h
        | cons p l ih=>
          intro hl h
          rcases List.mem_append.1 h with h | h
          · exact hl p (List.mem_cons_self ..) x h
          · exact ih (fun p' hp'=>hl p' (List.mem_cons_of_mem _ hp')) h
      refine this _ (fun p hp x hx=>?_) hx
      rcases List.mem_or_eq_of_mem_set hp with hp | hp
      · exact List.mem_append_right _ (hin.mem _ (fO hp x hx))
      · subst hp
        exact (hin' ex).mem _ hx
    have hro:∀ x∈iW ls (ye.set q.toNat (u',RJ ex)),∃ r,x= .ro r:=mK (Yn ls _)
    refine hf5.JP ?_ fun x hx=>?_
    · have := hf5.nodup
      simpa [yB,pS (tL ls ex),pS (Yn ls _),As.gs] using this
    · rcases List.mem_cons.1 hx with rfl | hx
      · exact List.mem_cons_self ..
      · rcases List.mem_append.1 hx with hx | hx
        · exact List.mem_cons_of_mem _ (hin2 x hx)
        · exact List.mem_cons_of_mem _ (List.mem_append_right _ hx)
theorem Rd.FM {t:Nat} {i:TI} {s:ByteArray} {kk:IntKind} {q z:Int} {ox oy:Operand} (h:Go.Proofs.YtplchdlgdjcojaaGreatDoor.FM s q=some z) (hx:ev Γ ox=some (.string s)) (hy:ev Γ oy=some (.int kk q)) (hi:yK T.tt t=some i) (hdesc:i.desc= .string):Rd P F Γ (.index t ox oy) (.int .u8 z):=fun a w d ty pos af g ha _=>by
 unfold Go.Proofs.YtplchdlgdjcojaaGreatDoor.FM at h
 split at h
 ·rename_i h0
  simp only [Option.map_eq_some_iff] at h
  obtain ⟨b,hb,rfl⟩:=h
  obtain ⟨dd,hu,hdd⟩:=T.ok.desc hi
  simp [execOp,ha.eval hx,ha.eval hy,Instr.index,asIntOf,run_underlying hu,TD.of_string (hdd.trans hdesc),h0,hb]
 ·cases h
theorem Rd.Bf {s t e:Nat} {i j l:TI} {A:Option Addr} {n c:Nat} {xs:List Int} {ox:Operand} (hm:As.ro (AV AQ A c xs)∈F) (hx:ev Γ ox=some (.slice A n c)) (hlen:n=xs.length) (hi:yK T.tt s=some i) (hdesc:i.desc= .slice e) (hj:yK T.tt e=some j) (hjd:j.desc= .int .u8) (hl:yK T.tt t=some l) (hld:l.desc= .string):
  Rd P F Γ (.convert s t ox) (.string (YT xs)):=fun a w d ty pos af g ha hf=>by
 obtain ⟨d1,hu1,hd1⟩:=T.ok.desc hi
 obtain ⟨d2,hu2,hd2⟩:=T.ok.desc hj
 obtain ⟨d3,hu3,hd3⟩:=T.ok.desc hl
 subst hlen
 have:=run_convert_bytes_string (P:=P) w s t e A xs.length c (TD.of_slice (hd1.trans hdesc)▸hu1) (TD.of_int (hd2.trans hjd)▸hu2) (TD.of_string (hd3.trans hld)▸hu3)
 simp only [execOp,ha.eval hx,Sem.run_bind,this,zNc (gU (E:=AQ) hm w hf),Result.andThen_ok,Sem.run_pure]
theorem Rd.quo {t yt:Nat} {k:IntKind} {x y z:Int} {ox oy:Operand} (h:Be k x y=some z) (hx:ev Γ ox=some (.int k x)) (hy:ev Γ oy=some (.int k y)):Rd P F Γ (.binOp .quo t ox oy yt) (.int k z):=
 Rd.p (by
  unfold Be at h
  split at h
  ·cases h
  ·rename_i h0; injection h with h; subst h; simp [OB,hx,hy,UK,ZW,h0])
theorem Rd.rem {t yt:Nat} {k:IntKind} {x y z:Int} {ox oy:Operand} (h:YU x y=some z) (hx:ev Γ ox=some (.int k x)) (hy:ev Γ oy=some (.int k y)):Rd P F Γ (.binOp .rem t ox oy yt) (.int k z):=
 Rd.p (by
  unfold YU at h
  split at h
  ·cases h
  ·rename_i h0; injection h with h; subst h; simp [OB,hx,hy,UK,ZW,h0])
theorem Rd.shl {t yt:Nat} {k k':IntKind} {x y z:Int} {ox oy:Operand} (h:ay k x y=some z) (hx:ev Γ ox=some (.int k x)) (hy:ev Γ oy=some (.int k' y)):Rd P F Γ (.binOp .shl t ox oy yt) (.int k z):=
 Rd.p (by
  unfold ay at h
  split at h
  ·cases h
  ·rename_i h0; injection h with h; subst h; simp [OB,hx,hy,UK,YR,h0])
theorem Rd.shr {t yt:Nat} {k k':IntKind} {x y z:Int} {ox oy:Operand} (h:WJ k x y=some z) (hx:ev Γ ox=some (.int k x)) (hy:ev Γ oy=some (.int k' y)):Rd P F Γ (.binOp .shr t ox oy yt) (.int k z):=
 Rd.p (by
  unfold WJ at h
  split at h
  ·cases h
  ·rename_i h0; injection h with h; subst h; simp [OB,hx,hy,UK,YR,h0])
theorem St.Cj {X:Act→World→Prop} {α:Type} {E:FQ α} {A:Option Addr} {c:Nat} {xs ys:List α} {l h:Int} (hm:As.ro (Sl E A c xs)∈F) (hz:Go.Proofs.YtplchdlgdjcojaaGreatDoor.sub xs l h=some ys)
  (k:∀ A' c',(A'=(if c=l.toNat then A else A.map (·.add (l.toNat*E.n)))∧c'=c - l.toNat)→St w0 nt Γ (.ro (Sl E A' c' ys)::F) X):St w0 nt Γ F X:=
 fun a w hs hdf ha hf hw=>k _ _ ⟨O,O⟩ a w hs hdf ha (hf.FI (Sl E _ _ ys) (JJ.sub (hf.ro hm) hz)) hw
theorem Sat.Yq {α:Type} {E:FQ α} {A A':Option Addr} {c c':Nat} {xs ys:List α} {l h:Int} {w:World} (hA:A'=(if c=l.toNat then A else A.map (·.add (l.toNat*E.n)))∧c'=c - l.toNat) (hm:As.ro (Sl E A c xs)∈F) (hz:Go.Proofs.YtplchdlgdjcojaaGreatDoor.sub xs l h=some ys) (hf:Sat F w):Sat (.ro (Sl E A' c' ys)::F) w:=by
 obtain ⟨rfl,rfl⟩:=hA
 exact hf.FI (Sl E _ _ ys) (JJ.sub (hf.ro hm) hz)
theorem Rd.sub {α:Type} {E:FQ α} {t e:Nat} {i j:TI} {A A':Option Addr} {n c c':Nat} {xs ys:List α} {lo hi:Option Operand} {l h:Int} {ox:Operand} (hA:A'=(if c=l.toNat then A else A.map (·.add (l.toNat*E.n)))∧c'=c - l.toNat) (hz:Go.Proofs.YtplchdlgdjcojaaGreatDoor.sub xs l h=some ys) (hm:As.ro (Sl E A c xs)∈F) (hx:ev Γ ox=some (.slice A n c)) (hlen:n=xs.length)
  (hl:vS Γ 0 lo=some l) (hh:vS Γ (n:Int) hi=some h) (hi':yK T.tt t=some i) (hdesc:i.desc= .slice e) (hj:yK T.tt e=some j) (hn:j.size=E.n):Rd P F Γ (.slice t ox lo hi none) (.slice A' ys.length c'):=fun a w d ty pos af g ha hf=>by
 obtain ⟨rfl,rfl⟩:=hA
 obtain ⟨h0,h1,h2,_⟩:=bA hz
 have hyl:=vg hz
 have hsl:JJ E A c xs (GV (yB F) w):=hf.ro hm
 have hcap:=hsl.1
 subst hlen
 have UO:ys.length=h.toNat - l.toNat:=by omega
 obtain ⟨dd,hu,hdd⟩:=T.ok.desc hi'
 have hb:=bX (P:=P) true ha hl hh h0 h1 h2 hcap w
 simp [execOp,Instr.sliceAt,Instr.slice,ha.eval hx,run_underlying hu,TD.of_slice (hdd.trans hdesc),hb,yI T.ok hj,hn,UO]
section
variable {C:World→Prop} {Qn:Act→World→Prop} {iz:Nat} {tz:Tg} {Pz t1 t2:Tr}
theorem St.FY (h1:St w0 nt Γ F (IA P ops C Qn t1)) (h2:St w0 nt Γ F (IA P ops C Qn t2)):St w0 nt Γ F (IA P ops C Qn (.alt t1 t2)):=
 fun a w hs hd ha hf hw=>⟨h1 a w hs hd ha hf hw,h2 a w hs hd ha hf hw⟩
theorem St.share {ε:Type} {X Y:Act→World→Prop} (Γs:ε→Env) (Fs:ε→List As) (h1:(∀ Γ₁ F₁ e,QU (Γs e) Γ₁→(∀ w,Sat F₁ w→Sat (Fs e) w)→St w0 nt Γ₁ F₁ Y)→St w0 nt Γ F X) (h2:∀ e,St w0 nt (Γs e) (Fs e) Y):St w0 nt Γ F X:=
 h1 fun _ _ e hΓ hF=>St.weak hΓ hF (h2 e)
theorem St.splitB {X:Act→World→Prop} {dj:Nat} (c:Bool) (hg:get Γ dj=some (.bool c)) (ht:c=true→St w0 nt ((dj, .bool true)::Γ) F X) (QV:c=false→St w0 nt ((dj, .bool false)::Γ) F X):St w0 nt Γ F X:=
 fun a w hs hdf ha hf hw=>by
  cases c
  ·exact QV O a w hs hdf (At.cons (ha dj _ hg) ha) hf hw
  ·exact ht O a w hs hdf (At.cons (ha dj _ hg) ha) hf hw
theorem St.IY {dst:Option Nat} {j dj:Nat} {b:Bool} (hj:WI ops j=some dj) (hg:get Γ dj=some (.bool b)) (k:St w0 nt Γ F (IA P ops C Qn (.st ⟨tz,iz,⟨dst,op,ty,pos,af,none⟩⟩ Pz))):
  St w0 nt Γ F (IA P ops C Qn (.st ⟨tz,iz,⟨dst,op,ty,pos,af,some (j,b)⟩⟩ Pz)):=
 fun a w hs hdf ha hf hw=>by
  have h:=k a w hs hdf ha hf hw
  have e1:Region.wanted ⟨dst,op,ty,pos,af,some (j,b)⟩ (yielded ops a.tmps)=true:=by simp [Region.wanted,bV ha hj hg]
  have e2:Region.wanted ⟨dst,op,ty,pos,af,none⟩ (yielded ops a.tmps)=true:=xD O _
  unfold IA pC at h ⊢
  rw [if_pos e2] at h
  rw [if_pos e1]
  exact h
theorem St.Cm {d' j dj:Nat} {b:Bool} {v:Value} (hd:Nat.blt d' nt=true) (hj:WI ops j=some dj) (hg:get Γ dj=some v) (hn:dQ v b=true) (k:St w0 nt ((d',undef)::Γ) F (IA P ops C Qn Pz)):
    St w0 nt Γ F (IA P ops C Qn (.st ⟨tz,iz,⟨some d',op,ty,pos,af,some (j,b)⟩⟩ Pz)):=
  fun a w hs hdf ha hf hw=>by
    have e1:¬ Region.wanted ⟨some d',op,ty,pos,af,some (j,b)⟩ (yielded ops a.tmps)=true:=by
      simp only [Region.wanted,bV ha hj hg]
      cases v <;> simp_all [dQ]
    unfold IA pC
    rw [if_neg e1]
    exact k _ w (by simp [Act.put,hs]) hdf (ha.put (hs▸Nat.le_of_ble_eq_true hd)) hf hw
end
theorem St.IV {c:Code} (h:St w0 nt Γ F (c.wp P (Exit.then (Q .normal) Q))):St w0 nt Γ F (c.wp P Q):=
 fun a w hs hd ha hf hw=>wp_mono (h a w hs hd ha hf hw) fun e a' w' hq=>by
  cases e <;> exact hq
def dn (g T:Nat) (cs:List Value):PZ where
 gs:= [g]
 p m:=m g=some (.cells cs.toArray T)
 loc _ _ h hp:=(h g (by simp)).symm.trans hp
theorem St.QG {t e n:Nat} {i j:TI} {ps:Array (Nat × Operand)} {cs:List Value} (hd:Nat.blt d nt=true) (hi:yK T.tt t=some i) (hdesc:i.desc= .slice e) (hj:yK T.tt e=some j) (hz:Nat.beq (zc j.zero).length j.size=true) (hpos:Nat.blt 0 j.size=true)
    (hps:XM Γ (fun i=>some (i*j.size,j.size)) (bJ n (zc j.zero)) ps.toList=some cs) (hsmall:Nat.ble (n*j.size) 16777216=true) (k:∀ g,St w0 nt ((d, .slice (some ⟨g,0,none⟩) n n)::Γ) (.res (dn g e cs)::F) (wpList P ops Q rest)):
    St w0 nt Γ F (wpList P ops Q (⟨some d, .buildSlice t n ps,ty,pos,af,none⟩::rest)):=
  fun a w hs hdf ha hf hw=>wpList_plain O fun K hK=>by
    obtain ⟨dd,hu,hdd⟩:=T.ok.desc hi
    have hzs:=Xu hz
    have hp0:0<j.size:=Nat.le_of_ble_eq_true hpos
    have hf2:=bB ha _ _ _ hps
    have hz2:((Array.range (n*j.size)).map fun i=>(if n*j.size=0 then #[] else j.zero.cells:Array Value)[i % (if n*j.size=0 then #[] else j.zero.cells:Array Value).size]!)=(bJ n (zc j.zero)).toArray:=by
      by_cases h0:n*j.size=0
      · have hn0 : n = 0 := by
          rcases Nat.mul_eq_zero.1 h0 with h | h
          · exact h
          · omega
        subst hn0
        simp [bJ]
      · simp only [h0, if_false]
        have:=Xt j.zero.cells n (by omega)
        rw [hzs] at this ⊢
        rw [this,←gK]
    have UM:(ps.map fun x=>(x.1,a.eval x.2)).toList=ps.toList.map fun x=>(x.1,a.eval x.2):=by simp
    unfold Oper.wp
    have hr:(execOp a.eval ⟨some d, .buildSlice t n ps,ty,pos,af,none⟩).run P w= .ok (.value (.slice (some ⟨w.heap.size,0,none⟩) n n)) (w.alloc (.cells cs.toArray e)):=by
      have hsm:¬ (n*j.size>2 ^ 24):=by have:=Nat.le_of_ble_eq_true hsmall; omega
      simp only [execOp,Instr.buildSlice,Sem.run_bind,run_underlying hu,TD.of_slice (hdd.trans hdesc),Result.andThen_ok,yI T.ok hj,if_neg hsm,Sem.run_pure]
      by_cases h0:n*j.size=0
      · simp only [h0, if_true] at hz2
        simp only [h0,if_true,Sem.run_bind,Sem.run_pure,Result.andThen_ok]
        rw [hz2,UM,hf2]
        rfl
      · simp only [h0, if_false] at hz2
        simp only [h0,if_false,Sem.run_bind,vP T.ok hj,Sem.run_pure,Result.andThen_ok]
        rw [hz2,UM,hf2]
        rfl
    rw [hr]
    exact hK _ _ (k _ _ _ (by simp [Act.put,hs]) hdf (ha.put (hs▸Nat.le_of_ble_eq_true hd)) (hf.GH (Ext.alloc w _) (dn w.heap.size e cs) (by simp [dn]) (fun k hk=>by simp [dn] at hk; subst hk; simp) (nA w _)) (hw.trans (Ext.alloc w _).toSame))
theorem St.Dc {s e:Nat} {i j:TI} {g n:Nat} {cs:List Value} {ox:Operand} (hd:Nat.blt d nt=true) (hx:ev Γ ox=some (.slice (some ⟨g,0,none⟩) n n)) (hi:yK T.tt s=some i) (hdesc:i.desc= .slice e) (hj:yK T.tt e=some j) (hjd:j.desc= .int .u8)
    (k:St w0 nt ((d, .slice (some ⟨g,0,none⟩) n n)::Γ) (.res (Box g e cs)::F) (wpList P ops Q rest)):St w0 nt Γ (.res (dn g e cs)::F) (wpList P ops Q (⟨some d, .convert s s ox,ty,pos,af,none⟩::rest)):=
  fun a w hs hdf ha hf hw=>wpList_plain O fun K hK=>by
    obtain ⟨d1,hu1,hd1⟩:=T.ok.desc hi
    obtain ⟨d2,hu2,hd2⟩:=T.ok.desc hj
    have hb:w.heap[g]? =some (.cells cs.toArray e):=(hf.all _ (List.mem_cons_self ..)).2.1
    have hsh:w.shape? g=some (e,cs.length):=by simp [World.shape?,hb]
    have hm:(markStringish ⟨g,0,none⟩).run P w= .ok () (w.freeze ⟨g,cs.length,none⟩ 1):=by
      unfold markStringish
      simp [hsh]
    unfold Oper.wp
    have hr:(execOp a.eval ⟨some d, .convert s s ox,ty,pos,af,none⟩).run P w= .ok (.value (.slice (some ⟨g,0,none⟩) n n)) (w.freeze ⟨g,cs.length,none⟩ 1):=by
      simp [execOp,ha.eval hx,convert,run_underlying hu1,TD.of_slice (hd1.trans hdesc),run_underlying hu2,TD.of_int (hd2.trans hjd),hm]
    rw [hr]
    have hwr:sS [g] w (w.freeze ⟨g,cs.length,none⟩ 1):=by
      refine ⟨⟨O,O,O,by simp [World.freeze]⟩,fun k hk hn=>?_⟩
      simp only [World.freeze,Nat.one_ne_zero,if_false,Array.getElem?_modify]
      rw [if_neg (fun h=>hn (by simp [h]))]
    refine hK _ _ (k _ _ (by simp [Act.put,hs]) hdf (ha.put (hs▸Nat.le_of_ble_eq_true hd)) (hf.exchange hwr (by simp [Box]) (fun q hq=>?_) ?_) (hw.trans hwr.toSame))
    · simp only [Box, List.mem_singleton] at hq
      subst hq
      exact ⟨Nat.lt_of_lt_of_le (hf.lt (by simp [yB,As.gs,dn])) hwr.size, .inl (by simp [dn])⟩
    · refine ⟨.cells cs.toArray e (cs.length, cs.length + 1), ?_, (cs.length, cs.length + 1), O, fun q hq h => by simp only at h; omega⟩
      show (w.freeze ⟨g,cs.length,none⟩ 1).heap[g]? =_
      simp [World.freeze,Array.getElem?_modify,hb]
end
open Go Go.ChangeShapes Go.WideShapes Go.RowKit
def Qa {α:Type} (P:Program) (E:FQ α) (φ:α→Prop) (t:TypeId):Prop:=∀ {H:Type} {enc:TypeId × Value→H} {w:World} {base:Nat} {sp:Nat→Bool} {held:Bool} {fuel:Nat} {cs:List Value} {x:DataW H × List MemPlace},
 DataW.trod enc P w base sp held fuel t cs=some x→∃ y:α,E.rel (hp w) y cs∧φ y
abbrev ML {α:Type} (P:Program) (ls:List (LC α)) (φ:α→Prop) (t:TypeId):Prop:=Qa P (zT ls) φ t
section
variable {H:Type} {enc:TypeId × Value→H} {P:Program} {w:World} {base:Nat} {sp:Nat→Bool} {held:Bool} {fuel:Nat} {cs:List Value} {x:DataW H × List MemPlace}
theorem gX {k:IntKind} {t:TypeId} (ht:P.underlying t=some (.int k)):ML P [.v (fun x=>.int k x) (fun _=>O)] (IX k) t:=fun h=>by
 obtain ⟨n,h1,_,h3⟩:=DataW.trod_int ht h
 subst h1
 exact ⟨n,⟨O,trivial⟩,(Lit.wf_int_iff _ _).1 h3⟩
theorem zOQ {t:TypeId} (ht:P.underlying t=some .bool):ML P [.v (fun x=>.bool x) (fun _=>O)] okB t:=fun h=>by
 obtain ⟨n,h1,_⟩:=DataW.trod_bool ht h
 subst h1
 exact ⟨n,⟨O,trivial⟩,trivial⟩
theorem Qb {t:TypeId} (ht:P.underlying t=some .string):ML P [.v (fun x=>.string x) (fun _=>O)] okS t:=fun h=>by
 obtain ⟨n,h1,_,h3⟩:=DataW.trod_string ht h
 subst h1
 exact ⟨n,⟨O,trivial⟩,h3⟩
theorem Qc {α:Type} {E:Enc α} {ls:List (LC α)} {φ:α→Prop} {t:TypeId} (h:ML P ls φ t) (he:∀ y ex,tM y ls ex=E.enc y):Qa P (CY E) φ t:=fun hd=>by
 obtain ⟨y,h1,h2⟩:=h hd
 obtain ⟨ex,h3,_⟩:=XV h1
 exact ⟨y,h3.trans (he y ex),h2⟩
theorem fN {n i off k:Nat} {t:TypeId} {sub:List Value} {xs:List (DataW H × List MemPlace)} (hf:DataW.trod enc P w base sp held n t ((cs.drop off).take (P.cellsOf t))=xs[i]?) (hi:i<xs.length) (hc:P.cellsOf t=k) (hcs:(cs.drop off).take k=sub):
  ∃ y,DataW.trod enc P w base sp held n t sub=some y:=by
 rw [hc,hcs,List.getElem?_eq_getElem hi] at hf
 exact ⟨_,hf⟩
theorem zHC {α:Type} {E:FQ α} {φ:α→Prop} {ad:Addr} {n:Nat} (hpos:0<E.n) (hr:∀ i,i<n→∃ (y:α) (cs:List Value),E.rel (hp w) y cs∧φ y∧∀ j,j<E.n→w.cell? (ad.add (i*E.n+j))=cs[j]?):
  ∃ xs:List α,xs.length=n∧(∀ x∈xs,φ x)∧∀ j x,xs[j]? =some x→ad.spot=none∧∃ cs,E.rel (hp w) x cs∧∀ i u,cs[i]? =some u→fZ (hp w) ad.block (ad.off+j*E.n+i)=some u:=by
 induction n with
 | zero=>exact ⟨[],O,(fun x h=>by cases h),fun j x h=>by simp at h⟩
 | succ n ih=>
  obtain ⟨xs,h1,hφ,h2⟩:=ih fun i hi=>hr i (by omega)
  obtain ⟨y,cy,hrel,hy0,hy⟩:=hr n (by omega)
  refine ⟨xs++ [y],by simp [h1],fun x hx=>?_,fun j x hj=>?_⟩
  ·rcases List.mem_append.1 hx with hx | hx
   ·exact hφ x hx
   ·simp only [List.mem_singleton] at hx
    subst hx
    exact hy0
  by_cases hjn:j<n
  ·rw [List.getElem?_append_left (by omega)] at hj
   exact h2 j x hj
  ·have hl:=(List.getElem?_eq_some_iff.1 hj).1
   simp only [List.length_append,List.length_singleton,h1] at hl
   obtain rfl:j=n:=by omega
   rw [←h1] at hj
   simp only [List.getElem?_append_right (Nat.le_refl _),Nat.sub_self,List.getElem?_cons_zero,Option.some.injEq] at hj
   subst hj
   have hspot:ad.spot=none:=by
    cases hsp:ad.spot with
    | none=>rfl
    | some q=>
     obtain ⟨y0,c0,Df,_,hc0⟩:=hr 0 (by omega)
     have h:=hc0 0 hpos
     have hl0:=E.len _ _ _ Df
     rw [List.getElem?_eq_getElem (by omega),show 0*E.n+0=0 by omega] at h
     have e:ad.add 0=ad:=rfl
     rw [e] at h
     unfold World.cell? at h
     split at h
     ·rw [hsp] at h; simp at h
     ·cases h
   refine ⟨hspot,cy,hrel,fun i u hu=>?_⟩
   have hi:i<E.n:=by rw [←E.len _ _ _ hrel]; exact (List.getElem?_eq_some_iff.1 hu).1
   have h:=hy i hi
   rw [hu] at h
   rw [Az]
   rw [←h]
   congr 1
   obtain ⟨b,o,s⟩:=ad
   simp only at hspot
   subst hspot
   unfold Addr.add
   split
   ·rename_i hz; simp only [Addr.mk.injEq,true_and,and_true]; omega
   ·simp only [Addr.mk.injEq,true_and,and_true]; omega
theorem Yr {α:Type} {E:FQ α} {φ:α→Prop} {t e:TypeId} (ht:P.underlying t=some (.slice e)) (hC:P.cellsOf e=E.n) (hpos:0<E.n) (hE:Qa P E φ e):ML P [.s E (fun x=>x)] (di φ) t:=fun {H enc w base sp held fuel cs x} hf=>by
 rcases Deep.open_slice ht hf with ⟨h1,_⟩ | ⟨a,len,cap,m,n,D,Pl,hcs,hb,hl,hm,hmm,_,hi⟩
 ·subst h1
  exact ⟨[],⟨⟨none,0,O,by simp,by simp [maxLen],fun _=>O,(fun ad h=>by cases h)⟩,trivial⟩,(fun x h=>by cases h),by simp⟩
 ·subst hcs
  have hlm:len≤m:=by rw [hmm]; split <;> omega
  obtain ⟨xs,h1,hφ,h2⟩:=zHC (w:=w) (E:=E) (φ:=φ) (ad:=a) (n:=len) hpos (fun i hin=>by
   obtain ⟨cs',hc,ht'⟩:=hi i (by omega)
   obtain ⟨y,hy,hy2⟩:=hE ht'
   obtain ⟨_,_,hat⟩:=World.cells?_some hc
   refine ⟨y,cs',hy,hy2,fun j hj=>?_⟩
   have:=hat j (by omega)
   rw [Deep.add_add,hC] at this
   exact this)
  subst h1
  refine ⟨xs,⟨⟨some a,cap,O,hl,hm,(fun h=>by cases h),fun ad had=>?_⟩,trivial⟩,hφ,by omega⟩
  injection had with had
  subst had
  exact h2
theorem Yt {α:Type} {ls:List (LC α)} {φ:α→Prop} {t:TypeId} {v:Value} {d:DataW H} {ps:List MemPlace} (hE:ML P ls φ t) (h:DataW.Trod enc P w base sp held t v d ps):
  ∃ (y:α) (ex:KH ls),v.cells.toList=tM y ls ex∧φ y∧∀ r,As.ro r∈wX y ls ex→r.p (hp w):=by
 obtain ⟨fuel,hf⟩:=h
 obtain ⟨y,h1,h2⟩:=hE hf
 obtain ⟨ex,h3,h4⟩:=XV h1
 exact ⟨y,ex,h3,h2,h4⟩
end
def ZB {α:Type} (n:Nat) (xs:List α):Option (List α):=if xs.length=n then some xs else none
theorem zOZ {α:Type} {n:Nat} {xs ys:List α} (h:ZB n xs=some ys):ys=xs∧xs.length=n:=by
 unfold ZB at h
 split at h
 ·rename_i hn; injection h with h; exact ⟨h.symm,hn⟩
 ·cases h
theorem sV {α:Type} {xs zs:List α} {q:Int} {v:α} (h:rJ xs q v=some zs):zs.length=xs.length:=by
 unfold rJ at h
 split at h
 ·injection h with h
  subst h
  simp
 ·cases h
def vz {ρ σ β:Type} (w:ρ→β) (o:ρ ⊕ σ) (f:σ→Option β):Option β:=match o with | .inl r=>some (w r) | .inr s=>f s
theorem JG {ρ σ:Type} {s:σ} {f:σ→Option ρ} {r:ρ} (h:xL (.inr s) f=some r):f s=some r:=h
theorem zVn {ρ σ β:Type} {w:ρ→β} {s:σ} {f:σ→Option β} {r:β} (h:vz w (.inr s) f=some r):f s=some r:=h
theorem zPZ {α:Type} {n:Nat} {xs ys:List α} (h:ZB n xs=some ys):n=xs.length:=(zOZ h).2.symm
section
variable {P:Program} [T:FP P] {w0:World} {nt:Nat} {Γ Γ':Env} {F F' G R:List As} {Q:Exit→Act→World→Prop} {ops:Array Oper} {rest:List Oper}
variable {d:Nat} {op:Op} {ty:Nat} {pos:String} {af:Array Edge} {X:List Oper→Act→World→Prop} {Post:Value→List As→Prop}
theorem zEr {α:Type} (E:Enc α) (xs:List α):(xs.map E.enc).flatten.length=xs.length*E.sz:=by
 induction xs with
 | nil=>simp
 | cons x r ih=>simp [E.len,Nat.add_mul,Nat.add_comm,ih]
theorem zQC {α:Type} (E:Enc α) (xs:List α):∀ u∈(xs.map E.enc).flatten,u.oneCell'=true:=by
 intro u hu
 obtain ⟨r,hr,hur⟩:=List.mem_flatten.1 hu
 obtain ⟨x,_,rfl⟩:=List.mem_map.1 hr
 exact E.one x u hur
def Yu:As→Prop
 | .ro _=>False
 | .res r=>∀ m z z',r.q m z→r.q m z'
def cG:List As→Prop
 | []=>True
 | x::r=>Yu x∧cG r
theorem cG.mem:∀ {F:List As},cG F→∀ x∈F,Yu x
 | [],_,x,hx=>by cases hx
 | y::r,h,x,hx=>by
  cases hx with
  | head=>exact h.1
  | tail _ hx=>exact cG.mem h.2 x hx
theorem zHV {α:Type} (E:Enc α) (e:Nat) (A:Option Addr) (c:Nat) (xs:List α):Yu (.res (zI E e A c xs)):=fun _ _ _ _=>True.intro
theorem BA.Yv {f:FuncId} {args:List Value} {G:List As} (h:BA P f args G Post) (hro:oS G=true) {w:World} (hG:∀ r,As.ro r∈G→r.p (hp w)) (hf:Sat F w) (hpl:∀ v F',Post v F'→cG F'):
  Calls P f args.toArray w fun e w'=>∃ v F',e= .returned v∧Post v F'∧Sat (F'++F) w'∧Same w w':=by
 have hG':=mK hro
 have hb:yB (G++ [.ro (lE w)])= []:=nQ fun x hx=>by
  rcases List.mem_append.1 hx with hx | hx
  ·obtain ⟨r,rfl⟩:=hG' x hx; rfl
  ·simp at hx; subst hx; rfl
 have hs:Sat (G++ [.ro (lE w)]) w:=by
  refine ⟨by rw [hb]; simp,fun x hx=>?_⟩
  rw [hb]
  rcases List.mem_append.1 hx with hx | hx
  ·obtain ⟨r,rfl⟩:=hG' x hx
   refine r.mono _ _ ?_ (hG r hx)
   intro k o ho
   simpa [GV,hp] using ho
  ·simp at hx
   subst hx
   intro k _
   simp [GV]
 refine (h w [.ro (lE w)] hs).mono fun e w' ⟨v',F',h1,h2,h4,h5⟩=>⟨v',F',h1,h2,?_,h5⟩
 have hfz:∀ k,k<w.heap.size→GV (yB (F'++ [.ro (lE w)])) w' k=w.heap[k]?:=fun k hk=>h4.ro (r:=lE w) (by simp) k hk
 have hbl:yB (F'++ [.ro (lE w)])=yB F':=by rw [sK]; simp [yB,As.gs]
 rw [hbl] at hfz
 have hnew:∀ k,k∈yB F'→w.heap.size≤k:=fun k hk=>by
  rcases Nat.lt_or_ge k w.heap.size with hlt | hge
  ·have:=hfz k hlt
   rw [GV,if_pos hk,Array.getElem?_eq_getElem hlt] at this
   cases this
  ·exact hge
 have hold:∀ k,k<w.heap.size→w'.heap[k]? =w.heap[k]?:=fun k hk=>by
  have:=hfz k hk
  rw [GV,if_neg (fun hm=>Nat.not_le.2 hk (hnew k hm))] at this
  exact this
 have hext:Ext w w':=⟨h5,hold⟩
 have hfe:=hf.ext hext
 refine ⟨?_,fun x hx=>?_⟩
 ·rw [sK]
  refine List.nodup_append.2 ⟨?_,hf.nodup,fun a ha b hb' e=>?_⟩
  ·have:=h4.nodup
   rw [hbl] at this
   exact this
  ·have h6:=hnew a ha
   have h7:=hf.lt hb'
   omega
 ·rcases List.mem_append.1 hx with hx | hx
  ·have hh:=h4.all x (List.mem_append.2 (.inl hx))
   have hp':=(hpl v' F' h2).mem x hx
   cases x with
   | ro r=>exact hp'.elim
   | res r=>exact ⟨hh.1,hh.2.1,hp' _ _ _ hh.2.2⟩
  ·have hh:=hf.all x hx
   have hle:Hp.le (GV (yB F) w) (GV (yB (F'++F)) w'):=by
    intro k o hk
    unfold GV at*
    split at hk
    ·cases hk
    ·rename_i hnn
     have hlt:=(Array.getElem?_eq_some_iff.1 hk).1
     rw [if_neg,hold k hlt]
     ·exact hk
     ·rw [sK,List.mem_append,not_or]
      exact ⟨fun hm=>Nat.not_le.2 hlt (hnew k hm),hnn⟩
   cases x with
   | ro r=>exact r.mono _ _ hle hh
   | res r=>
    have hb':∀ k,k∈r.gs→hp w k=hp w' k:=fun k hk=>(hold k (hh.1 k hk)).symm
    exact ⟨fun k hk=>Nat.lt_of_lt_of_le (hh.1 k hk) hext.size,r.loc _ _ hb' hh.2.1,r.QA _ _ _ _ hb' hle hh.2.2⟩
def mG (G:List As) (F:List As):Prop:=∀ w,Sat F w→∀ r,As.ro r∈G→r.p (hp w)
theorem mG.nil:mG [] F:=fun w h r hr=>by cases hr
theorem mG.ro {r:Ro} (hm:As.ro r∈F) (h:mG G F):mG (.ro r::G) F:=fun w hw r' hr=>by
 cases hr with
 | head=>exact hw.KR hm
 | tail _ hr=>exact h w hw r' hr
theorem mG.own {α:Type} {E:Enc α} {e c:Nat} {A:Option Addr} {xs:List α} (hm:As.res (zI E e A c xs)∈F) (h:mG G F):mG (.ro (AV E A c xs)::G) F:=fun w hw r' hr=>by
 cases hr with
 | head=>exact zI.sl hw hm
 | tail _ hr=>exact h w hw r' hr
theorem mG.pure {r:Ro} (hr0:∀ m,r.p m) (h:mG G F):mG (.ro r::G) F:=fun w hw r' hr=>by
 cases hr with
 | head=>exact hr0 _
 | tail _ hr=>exact h w hw r' hr
theorem St.TJ {f:FuncId} {args:List Value} {G:List As} {x:Operand} {xs:List Operand} {ts:Array Nat} (h:BA P f args G Post) (he:BX P f) (hd:Nat.blt d nt=true) (hx:ev Γ x=some (.func (.func f) #[] #[])) (hxs:evs Γ xs=some args)
  (hro:oS G=true) (hA:mG G F) (hpl:∀ v F',Post v F'→cG F') (k:∀ v F',Post v F'→St w0 nt ((d,v)::Γ) (F'++F) (wpList P ops Q rest)):
  St w0 nt Γ F (wpList P ops Q (⟨some d, .call { callee:=.value x,args:=xs.toArray,argTypes:=ts },ty,pos,af,none⟩::rest)):=
 fun a w hs hdf ha hf hw=>wpList_plain O fun K hK=>by
  unfold Oper.wp
  rw [dV he (ha.eval hx) (ha.KQ hxs)]
  show Calls P f args.toArray w _
  refine (h.Yv hro (hA w hf) hf hpl).mono fun e w' ⟨v,F',h1,h2,h3,h4⟩=>?_
  subst h1
  exact hK _ _ (k v F' h2 _ _ (by simp [Act.put,hs]) hdf (ha.put (hs▸Nat.le_of_ble_eq_true hd)) h3 (hw.trans h4))
def Qd (P:Program) (f:FuncId) (args:List Value) (F:List As) (Post:Value→List As→Prop):Prop:=
 ∀ (w:World),Sat (F++ [.ro (lE w)]) w→Calls P f args.toArray w (Out w [.ro (lE w)] Post)
theorem Qd.intro {f:FuncId} {fn:Func} {c:Code} {args:List Value} (hf:P.funcs[f]? =some fn) (hb:fn.body=some c) (hn:fn.ntmps=nt) (hl:Nat.ble args.length nt=true)
  (h:∀ w R,R= [.ro (lE w)]→St w nt (IU 0 args) (F++R) (c.wp P (bodyPost P fn (Out w R Post)))):Qd P f args F Post:=by
 intro w hs
 have hl':=Nat.le_of_ble_eq_true hl
 refine calls_of_wp hf hb (h w _ O _ w ?_ O ?_ hs (Same.refl w))
 ·simp [hn]; omega
 ·refine At.IU _ _ args 0 fun i v hv=>?_
  rw [Nat.zero_add]
  have hi:=(List.getElem?_eq_some_iff.1 hv).1
  rw [Array.getElem?_append_left (by simpa using hi)]
  simpa using hv
theorem Qd.quiet {f:FuncId} {args:List Value} {G:List As} {v:Value} (h:Qd P f args G (Val v)) (hro:oS G=true) (hin:nU G F) {w:World} (hf:Sat F w):
  Calls P f args.toArray w fun e w'=>e= .returned v∧Ext w w':=by
 have hG:=mK hro
 have hb:yB (G++ [.ro (lE w)])= []:=nQ fun x hx=>by
  rcases List.mem_append.1 hx with hx | hx
  ·obtain ⟨r,rfl⟩:=hG x hx; rfl
  ·simp at hx; subst hx; rfl
 have hs:Sat (G++ [.ro (lE w)]) w:=by
  refine ⟨by rw [hb]; simp,fun x hx=>?_⟩
  rw [hb]
  rcases List.mem_append.1 hx with hx | hx
  ·obtain ⟨r,rfl⟩:=hG x hx
   refine r.mono _ _ ?_ (hf.ro (hin.mem _ hx))
   exact cX w (by simp)
  ·simp at hx
   subst hx
   intro k _
   simp [GV]
 refine (h w hs).mono fun e w' ⟨v',F',h1,⟨h2,h3⟩,h4,h5⟩=>?_
 subst h2; subst h3
 refine ⟨h1,h5,fun k hk=>?_⟩
 have h6:=h4.KR (r:=lE w) (by simp) k hk
 exact h6
end
def dX (A:Option Addr) (c lo sz:Nat):Option Addr:=if c=lo then A else A.map (·.add (lo*sz))
def iY (AE:Option Addr) (cc:Nat) (A:Option Addr) (c lo sz:Nat):Prop:=cc=c - lo∧(lo<c→AE=A.map (·.add (lo*sz)))
theorem kQ {A:Option Addr} {c lo sz:Nat}:iY (dX A c lo sz) (c - lo) A c lo sz:=⟨O,fun h=>by
 unfold dX
 rw [if_neg (by omega)]⟩
theorem add_add (a:Addr) (i j:Nat):(a.add i).add j=a.add (i+j):=by
 unfold Addr.add
 by_cases hi:i=0
 ·subst hi
  simp
 ·by_cases hj:j=0
  ·subst hj; simp
  ·simp [hi,hj,Nat.add_assoc]
theorem zNh {AE A:Option Addr} {cc c lo l sz:Nat} (h:iY AE cc A c lo sz):iY (dX AE cc l sz) (cc - l) A c (lo+l) sz:=by
 obtain ⟨rfl,h⟩:=h
 refine ⟨by omega,fun hlt=>?_⟩
 have h1:=h (by omega)
 unfold dX
 rw [if_neg (by omega),h1]
 cases A with
 | none=>rfl
 | some ad=>
  simp only [Option.map_some]
  rw [add_add,Nat.add_mul]
def iZ (len lo n:Nat) (l h:Int):Option Nat:=if lo+n≤len then (if 0≤l∧l≤h∧h≤n then some (h.toNat - l.toNat) else none) else none
theorem zQg {len lo n m:Nat} {l h:Int} (hh:iZ len lo n l h=some m):lo+n≤len∧0≤l∧l≤h∧h≤n∧m=h.toNat - l.toNat:=by
 unfold iZ at hh
 split at hh
 ·rename_i h1
  split at hh
  ·rename_i h2
   injection hh with hh
   exact ⟨h1,h2.1,h2.2.1,h2.2.2,hh.symm⟩
  ·cases hh
 ·cases hh
def tD (n:Nat) (lo hi:Int):Option Nat:=if 0≤lo∧lo≤hi∧hi≤n then some (hi.toNat - lo.toNat) else none
def gM {α:Type} (xs:List α) (lo n:Nat) (i:Int):Option α:=if 0≤i∧i<n then BP xs ((lo:Int)+i) else none
theorem zMT {n m:Nat} {lo hi:Int} (h:tD n lo hi=some m):0≤lo∧lo≤hi∧hi≤n∧m=hi.toNat - lo.toNat:=by
 unfold tD at h
 split at h
 ·rename_i hh
  injection h with h
  exact ⟨hh.1,hh.2.1,hh.2.2,h.symm⟩
 ·cases h
theorem bY {α:Type} {xs:List α} {lo n:Nat} {i:Int} {y:α} (h:gM xs lo n i=some y):BP xs ((lo:Int)+i)=some y:=by
 unfold gM at h
 split at h
 ·exact h
 ·cases h
theorem zRu {α:Type} {xs:List α} {lo n:Nat} {i:Int} {y:α} (h:gM xs lo n i=some y):0≤i∧i<n:=by
 unfold gM at h
 split at h
 ·rename_i hh; exact hh
 ·cases h
def VE {α:Type} (o:Option α) (A:Value→List As→Prop) (B:α→Value→List As→Prop):Value→List As→Prop:=match o with | none=>A | some x=>B x
theorem bL {α:Type} {o:Option α} {A:Value→List As→Prop} {B:α→Value→List As→Prop} {v:Value} {F:List As} (h:o=none) (hp:VE o A B v F):A v F:=by subst h; exact hp
theorem wL {α:Type} {o:Option α} {x:α} {A:Value→List As→Prop} {B:α→Value→List As→Prop} {v:Value} {F:List As} (h:o=some x) (hp:VE o A B v F):B x v F:=by subst h; exact hp
theorem wS {α:Type} {A:Value→List As→Prop} {B:α→Value→List As→Prop} {v:Value} {F:List As} (hp:A v F):VE none A B v F:=hp
theorem mI {α:Type} {x:α} {A:Value→List As→Prop} {B:α→Value→List As→Prop} {v:Value} {F:List As} (hp:B x v F):VE (some x) A B v F:=hp
def sI {α β:Type} (o:Option α) (a:Option β) (f:α→Option β):Option β:=match o with | none=>a | some x=>f x
theorem wJ {α β:Type} {o:Option α} {a:Option β} {f:α→Option β} {r:β} (h:o=none) (k:sI o a f=some r):a=some r:=by subst h; exact k
theorem wK {α β:Type} {o:Option α} {x:α} {a:Option β} {f:α→Option β} {r:β} (h:o=some x) (k:sI o a f=some r):f x=some r:=by subst h; exact k
section
variable {P:Program} [T:FP P] {w0:World} {nt:Nat} {Γ Γ':Env} {F F' G R:List As} {Q:Exit→Act→World→Prop} {ops:Array Oper} {rest:List Oper}
variable {d:Nat} {op:Op} {ty:Nat} {pos:String} {af:Array Edge} {X:List Oper→Act→World→Prop} {Post:Value→List As→Prop}
theorem St.part [W:Walk P ops X] {α:Type} {E:Enc α} {t e e':Nat} {i j:TI} {A:Option Addr} {n c m:Nat} {xs:List α} {lo hi:Option Operand} {l h:Int} {ox:Operand} (hz:tD xs.length l h=some m) (hd:Nat.blt d nt=true) (hx:ev Γ ox=some (.slice A n c)) (hm:As.res (zI E e' A c xs)∈F) (hlen:n=xs.length)
    (hl:vS Γ 0 lo=some l) (hh:vS Γ (n:Int) hi=some h) (hi':yK T.tt t=some i) (hdesc:i.desc= .slice e) (hj:yK T.tt e=some j) (hn:j.size=E.sz)
    (k:St w0 nt ((d, .slice (dX A c l.toNat E.sz) m (c - l.toNat))::Γ) F (X rest)):St w0 nt Γ F (X (⟨some d, .slice t ox lo hi none,ty,pos,af,none⟩::rest)):=
  fun a w hs hdf ha hf hw=>by
    obtain ⟨h0,h1,h2,rfl⟩:=zMT hz
    have hown:nV E.sz e' A xs.length c (xs.map E.enc) (hp w):=hf.res hm
    have hcap:xs.length≤c:=by
      rcases hown.2.2 with ⟨_,_⟩ | ⟨_,_,_,_,_,_,_,hh,_⟩ <;> omega
    subst hlen
    refine St.val (F:=F) hd (v:=.slice (dX A c l.toNat E.sz) (h.toNat - l.toNat) (c - l.toNat)) (fun a w' ha _=>?_) k a w hs hdf ha hf hw
    obtain ⟨dd,hu,hdd⟩:=T.ok.desc hi'
    have hb:=bX (P:=P) true ha hl hh h0 h1 h2 hcap w'
    simp [execOp,Instr.sliceAt,Instr.slice,ha.eval hx,run_underlying hu,TD.of_slice (hdd.trans hdesc),hb,yI T.ok hj,hn,dX]
theorem St.ZC [W:Walk P ops X] {α:Type} {E:Enc α} {t e e':Nat} {i j:TI} {A AE:Option Addr} {n c cc lo0 m:Nat} {xs:List α} {lo hi:Option Operand} {l h:Int} {ox:Operand} (hp:iY AE cc A c lo0 E.sz) (hz:iZ xs.length lo0 n l h=some m) (hd:Nat.blt d nt=true) (hx:ev Γ ox=some (.slice AE n cc)) (hm:As.res (zI E e' A c xs)∈F)
    (hl:vS Γ 0 lo=some l) (hh:vS Γ (n:Int) hi=some h) (hi':yK T.tt t=some i) (hdesc:i.desc= .slice e) (hj:yK T.tt e=some j) (hn:j.size=E.sz)
    (k:St w0 nt ((d, .slice (dX AE cc l.toNat E.sz) m (cc - l.toNat))::Γ) F (X rest)):St w0 nt Γ F (X (⟨some d, .slice t ox lo hi none,ty,pos,af,none⟩::rest)):=
  fun a w hs hdf ha hf hw=>by
    obtain ⟨hle,h0,h1,h2,rfl⟩:=zQg hz
    have hown:nV E.sz e' A xs.length c (xs.map E.enc) (Go.Proofs.YtplchdlgdjcojaaGreatDoor.hp w):=hf.res hm
    have hcap:xs.length≤c:=by
      rcases hown.2.2 with ⟨_,_⟩ | ⟨_,_,_,_,_,_,_,hh,_⟩ <;> omega
    obtain ⟨hcc,_⟩:=hp
    refine St.val (F:=F) hd (v:=.slice (dX AE cc l.toNat E.sz) (h.toNat - l.toNat) (cc - l.toNat)) (fun a w' ha _=>?_) k a w hs hdf ha hf hw
    obtain ⟨dd,hu,hdd⟩:=T.ok.desc hi'
    have hb:=bX (P:=P) true ha hl hh h0 h1 h2 (show n≤cc by omega) w'
    simp [execOp,Instr.sliceAt,Instr.slice,ha.eval hx,run_underlying hu,TD.of_slice (hdd.trans hdesc),hb,yI T.ok hj,hn,dX]
theorem St.QH [W:Walk P ops X] {α:Type} {E:Enc α} {t e e':Nat} {i j:TI} {x ix:Operand} {A AE:Option Addr} {n c cc lo:Nat} {kk:IntKind} {q:Int} {xs:List α} {y:α} (hp:iY AE cc A c lo E.sz) (hy:gM xs lo n q=some y) (hd:Nat.blt d nt=true) (hx:ev Γ x=some (.slice AE n cc)) (hq:ev Γ ix=some (.int kk q))
    (hm:As.res (zI E e' A c xs)∈F) (hi:yK T.tt t=some i) (hdesc:i.desc= .slice e) (hj:yK T.tt e=some j) (hn:j.size=E.sz)
    (k:∀ g,A=some ⟨g,0,none⟩→St w0 nt ((d, .pointer (some ⟨g,((lo:Int)+q).toNat*E.sz,none⟩))::Γ) F (X rest)):St w0 nt Γ F (X (⟨some d, .indexAddr t x ix,ty,pos,af,none⟩::rest)):=
  fun a w hs hdf ha hf hw=>by
    obtain ⟨h0,h1⟩:=zRu hy
    obtain ⟨_,h3,_⟩:=uR (bY hy)
    have hown:nV E.sz e' A xs.length c (xs.map E.enc) (Go.Proofs.YtplchdlgdjcojaaGreatDoor.hp w):=hf.res hm
    rcases hown.2.2 with ⟨h,_⟩ | ⟨g,cur,fr,hc,hA,_,_,hle,_⟩
    · omega
    · subst hA
      obtain ⟨dd,hu,hdd⟩:=T.ok.desc hi
      have hpa:AE=some ⟨g,lo*E.sz,none⟩:=by
        rw [hp.2 (by omega)]
        exact congrArg some (uW g _)
      rw [hpa] at hx
      have hadd:(⟨g,lo*E.sz,none⟩:Addr).add (q.toNat*E.sz)=⟨g,((lo:Int)+q).toNat*E.sz,none⟩:=by
        have e1:((lo:Int)+q).toNat=lo+q.toNat:=by omega
        rw [e1,Nat.add_mul]
        unfold Addr.add
        split
        · rename_i hz; rw [hz]; rfl
        · rfl
      refine W.val _ _ _ _ _ (xD O _) (fun w' he=>?_) (k g O _ w (by simp [Act.put,hs]) hdf (ha.put (hs▸Nat.le_of_ble_eq_true hd)) hf hw)
      simp [execOp,Instr.indexAt,ha.eval hx,ha.eval hq,asIntOf,run_underlying hu,TD.of_slice (hdd.trans hdesc),yI T.ok hj,hn,h0,h1,hadd]
theorem zPN {α:Type} {E:FQ α} {A AE:Option Addr} {c cc lo n:Nat} {xs ys:List α} {m:Hp} (hp:iY AE cc A c lo E.n) (h:JJ E A c xs m) (hz:sub xs (lo:Int) ((lo+n:Nat):Int)=some ys) (hn:n≠0):JJ E AE cc ys m:=by
 have h1:=JJ.sub h hz
 obtain ⟨_,_,h2,_⟩:=bA hz
 have hlt:lo<c:=by have:=h.1; omega
 obtain ⟨rfl,h3⟩:=hp
 rw [h3 hlt]
 rw [if_neg (by omega)] at h1
 exact h1
theorem zHw {α:Type} {E:Enc α} {A AE:Option Addr} {c cc lo n e:Nat} {xs ys:List α} {w:World} (hp:iY AE cc A c lo E.sz) (hz:sub xs (lo:Int) ((lo+n:Nat):Int)=some ys) (hm:As.res (zI E e A c xs)∈F) (hw:Sat F w):JJ (CY E) AE cc ys (Go.Proofs.YtplchdlgdjcojaaGreatDoor.hp w):=by
 have h:JJ (CY E) A c xs (Go.Proofs.YtplchdlgdjcojaaGreatDoor.hp w):=zI.sl hw hm
 by_cases hn:n=0
 ·subst hn
  have:ys= []:=by have:=vg hz; simpa using this
  subst this
  refine ⟨Nat.zero_le _,?_,fun _=>O,fun ad _ j x hx=>by simp at hx⟩
  have:=h.2.1
  obtain ⟨rfl,_⟩:=hp
  omega
 ·exact zPN hp h hz hn
theorem mG.part {α:Type} {E:Enc α} {e c cc lo n:Nat} {A AE:Option Addr} {xs ys:List α} (hp:iY AE cc A c lo E.sz) (hz:sub xs (lo:Int) ((lo+n:Nat):Int)=some ys) (hm:As.res (zI E e A c xs)∈F) (h:mG G F):mG (.ro (AV E AE cc ys)::G) F:=fun w hw r' hr=>by
 cases hr with
 | head=>exact zHw hp hz hm hw
 | tail _ hr=>exact h w hw r' hr
theorem mM {α:Type} {xs ys:List α} {lo n c:Nat} {A:Option Addr} (hz:sub xs (lo:Int) ((lo+n:Nat):Int)=some ys):some (Value.slice A n c)=some (Value.slice A ys.length c):=by
 have:=vg hz
 have e:n=ys.length:=by omega
 rw [e]
theorem BA.dw {f:FuncId} {args:List Value} {G:List As} {v:Value} (h:BA P f args G (Val v)) (hro:oS G=true) {w:World} (hG:∀ r,As.ro r∈G→r.p (Go.Proofs.YtplchdlgdjcojaaGreatDoor.hp w)):
  Calls P f args.toArray w fun e w'=>e= .returned v∧Ext w w':=by
 have hG':=mK hro
 have hb:yB (G++ [.ro (lE w)])= []:=nQ fun x hx=>by
  rcases List.mem_append.1 hx with hx | hx
  ·obtain ⟨r,rfl⟩:=hG' x hx; rfl
  ·simp at hx; subst hx; rfl
 have hs:Sat (G++ [.ro (lE w)]) w:=by
  refine ⟨by rw [hb]; simp,fun x hx=>?_⟩
  rw [hb]
  rcases List.mem_append.1 hx with hx | hx
  ·obtain ⟨r,rfl⟩:=hG' x hx
   refine r.mono _ _ ?_ (hG r hx)
   intro k o ho
   simpa [GV,Go.Proofs.YtplchdlgdjcojaaGreatDoor.hp] using ho
  ·simp at hx
   subst hx
   intro k _
   simp [GV]
 refine (h w [.ro (lE w)] hs).mono fun e w' ⟨v',F',h1,⟨h2,h3⟩,h4,h5⟩=>?_
 subst h2; subst h3
 refine ⟨h1,h5,fun k hk=>?_⟩
 have h6:=h4.KR (r:=lE w) (by simp) k hk
 exact h6
theorem St.OV [W:Walk P ops X] {f:FuncId} {args:List Value} {G:List As} {v:Value} {x:Operand} {xs:List Operand} {ts:Array Nat} (h:BA P f args G (Val v)) (he:BX P f) (hd:Nat.blt d nt=true) (hx:ev Γ x=some (.func (.func f) #[] #[])) (hxs:evs Γ xs=some args)
  (hro:oS G=true) (hA:mG G F) (k:St w0 nt ((d,v)::Γ) F (X rest)):
  St w0 nt Γ F (X (⟨some d, .call { callee:=.value x,args:=xs.toArray,argTypes:=ts },ty,pos,af,none⟩::rest)):=
 fun a w hs hdf ha hf hw=>W.call _ _ _ _ f args.toArray v (xD O _) (fun w' _=>dV he (ha.eval hx) (ha.KQ hxs) w' _ _)
  (fun _ hext=>h.dw hro (hA _ (hf.ext hext)))
  (fun _ hext=>k _ _ (by simp [Act.put,hs]) hdf (ha.put (hs▸Nat.le_of_ble_eq_true hd)) (hf.ext hext) (hw.trans hext.toSame))
end
def eB {α:Type} (xs:List α) (lo n:Nat) (ys:List α):Option (List α):=if lo+n≤xs.length then some (xs.take lo++ys.take n++xs.drop (lo+min ys.length n)) else none
theorem zMS {α:Type} {xs ys zs:List α} {lo n:Nat} (h:eB xs lo n ys=some zs):lo+n≤xs.length∧zs=xs.take lo++ys.take (min ys.length n)++xs.drop (lo+min ys.length n):=by
 unfold eB at h
 split at h
 ·rename_i hh
  injection h with h
  refine ⟨hh,?_⟩
  rw [←h]
  congr 2
  rcases Nat.le_total ys.length n with h1 | h1
  ·rw [Nat.min_eq_left h1,List.take_of_length_le h1,List.take_of_length_le (Nat.le_refl _)]
  ·rw [Nat.min_eq_right h1]
 ·cases h
theorem zHX {α:Type} {xs ys zs:List α} {lo n:Nat} (h:eB xs lo n ys=some zs):zs.length=xs.length:=by
 obtain ⟨h1,rfl⟩:=zMS h
 simp only [List.length_append,List.length_take,List.length_drop]
 omega
theorem Yw {α:Type} {xs ys zs:List α} {lo n:Nat} {A:Option Addr} {c:Nat} (h:eB xs lo n ys=some zs):some (Value.slice A xs.length c)=some (Value.slice A zs.length c):=by rw [zHX h]
theorem JJ.take {α:Type} {E:FQ α} {A:Option Addr} {c:Nat} {xs:List α} {m:Hp} (h:JJ E A c xs m) (k:Nat):JJ E A c (xs.take k) m:=by
 refine ⟨?_,h.2.1,fun hA=>by rw [h.2.2.1 hA]; simp,fun ad hA j x hx=>h.2.2.2 ad hA j x ?_⟩
 ·have:=h.1; simp only [List.length_take]; omega
 ·rw [List.getElem?_take] at hx
  split at hx
  ·exact hx
  ·cases hx
theorem JJ.cells {α:Type} {E:Enc α} {A:Option Addr} {c:Nat} {xs:List α} {P:Program} [FP P] {w:World} (h:JJ (CY E) A c xs (hp w)):aR P E.sz (.slice A xs.length c) xs.length (xs.map E.enc).flatten w:=by
 obtain ⟨rows,h1,h2,h3⟩:=h.rows
 have:rows=xs.map E.enc:=by
  apply List.ext_getElem (by simp [h1.1])
  intro j hj hj'
  simp only [List.length_map] at hj'
  have e:rows[j]=E.enc xs[j]:=h1.2 j xs[j] rows[j] (List.getElem?_eq_getElem _) (List.getElem?_eq_getElem _)
  simpa using e
 subst this
 exact JJ.src (E:=CY E) h2 (by simp) h.2.2.1 h3
theorem JJ.first {α:Type} {E:Enc α} {A:Option Addr} {c n:Nat} {xs:List α} {P:Program} [FP P] {w:World} (h:JJ (CY E) A c xs (hp w)) (k:Nat) (hk:k≤xs.length):(Builtin.firstCells E.sz k (.slice A n c)).run P w= .ok ((xs.take k).map E.enc).flatten.toArray w:=by
 have h1:=(JJ.cells (P:=P) (h.take k)).2.2.2 w O
 have:(xs.take k).length=k:=by simp; omega
 rw [this] at h1
 cases A <;> exact h1
section
variable {P:Program} [T:FP P] {w0:World} {nt:Nat} {Γ Γ':Env} {F F' G R:List As} {Q:Exit→Act→World→Prop} {ops:Array Oper} {rest:List Oper}
variable {d:Nat} {op:Op} {ty:Nat} {pos:String} {af:Array Edge} {X:List Oper→Act→World→Prop} {Post:Value→List As→Prop}
theorem zIr {α:Type} (E:Enc α):∀ (xs:List α) (k:Nat),(xs.map E.enc).flatten.take (k*E.sz)=((xs.take k).map E.enc).flatten
 | [],k=>by simp
 | x::xs,0=>by simp
 | x::xs,k+1=>by
  have:=zIr E xs k
  have hl:=E.len x
  simp only [List.map_cons,List.flatten_cons,List.take_succ_cons]
  rw [Nat.add_mul,Nat.one_mul,Nat.add_comm,List.take_append,hl,Nat.add_sub_cancel_left,this,List.take_of_length_le (by omega)]
theorem zIu {α:Type} (E:Enc α):∀ (xs:List α) (k:Nat),(xs.map E.enc).flatten.drop (k*E.sz)=((xs.drop k).map E.enc).flatten
 | [],k=>by simp
 | x::xs,0=>by simp
 | x::xs,k+1=>by
  have:=zIu E xs k
  have hl:=E.len x
  simp only [List.map_cons,List.flatten_cons,List.drop_succ_cons]
  rw [Nat.add_mul,Nat.one_mul,Nat.add_comm,List.drop_append,hl,Nat.add_sub_cancel_left,this,List.drop_eq_nil_of_le (by omega),List.nil_append]
theorem St.VF {α:Type} {E:Enc α} {t t2 e e' lo n c cd m cs:Nat} {i j:TI} {x y:Operand} {A B S:Option Addr} {xs ys zs:List α} (hz:eB xs lo n ys=some zs) (hd:Nat.blt d nt=true) (hx:ev Γ x=some (.slice B n cd)) (hy:ev Γ y=some (.slice S m cs)) (hm:m=ys.length)
    (hB:∀ ad,A=some ad→0<n→lo<c→B=some (ad.add (lo*E.sz))) (hD:Del F (.res (zI E e' A c xs)) G) (hsrc:∀ w,Sat F w→JJ (CY E) S cs ys (hp w)) (hi:yK T.tt t=some i) (hdesc:i.desc= .slice e) (hj:yK T.tt e=some j) (hn:j.size=E.sz)
    (k:St w0 nt ((d, .int .i64 ((min ys.length n:Nat):Int))::Γ) (.res (zI E e' A c zs)::G) (wpList P ops Q rest)):
    St w0 nt Γ F (wpList P ops Q (⟨some d, .call { callee:=.builtin .copy,args:=#[x,y],argTypes:=#[t,t2] },ty,pos,af,none⟩::rest)):=
  fun a w hs hdf ha hf hw=>wpList_plain O fun K hK=>by
    obtain ⟨hle,rfl⟩:=zMS hz
    subst hm
    have hf':=hf.front hD
    have hown:nV E.sz e' A xs.length c (xs.map E.enc) (hp w):=hf.MN hD
    obtain ⟨dd,hu,hdd⟩:=T.ok.desc hi
    have hu':=hu.trans (congrArg some (TD.of_slice (hdd.trans hdesc)))
    have hsz:=yI T.ok hj
    have hfc:=(hsrc w hf).first (P:=P) (n:=ys.length) (min ys.length n) (by omega)
    have hnm:Nat.min ys.length n=min ys.length n:=rfl
    have hbk:∀ g,A=some ⟨g,0,none⟩→0<c→ [g]=(zI E e' A c xs).gs:=fun g hA hc=>by subst hA; exact (Xq hc).symm
    have go:∃ w',(execOp a.eval ⟨some d, .call { callee:=.builtin .copy,args:=#[x,y],argTypes:=#[t,t2] },ty,pos,af,none⟩).run P w= .ok (.value (.int .i64 ((min ys.length n:Nat):Int))) w'∧Same w w'∧Sat (.res (zI E e' A c (xs.take lo++ys.take (min ys.length n)++xs.drop (lo+min ys.length n)))::G) w':=by
      by_cases hk0:min ys.length n=0
      · refine ⟨w, ?_, Same.refl w, ?_⟩
        · rw [hk0] at hfc
          cases B with
          | none=>simp [execOp,resolve,invoke,builtin,Builtin.copy_,ha.eval hx,ha.eval hy,run_underlying hu',Builtin.lenOf,hsz,hn,hnm,hk0,hfc,goInt]
          | some b=>simp [execOp,resolve,invoke,builtin,Builtin.copy_,ha.eval hx,ha.eval hy,run_underlying hu',Builtin.lenOf,hsz,hn,hnm,hk0,hfc,goInt,storeCells]
        · rw [hk0]
          simpa using hf'
      · obtain ⟨o1, o2, o3⟩ := hown
        rcases o3 with ⟨h,_⟩ | ⟨g,cur,fr,hpos,hA,hg,hcs,hnc,hc,htk,hfz⟩
        · omega
        have hBs:=hB _ hA (by omega) (by omega)
        rw [uW] at hBs
        subst hBs
        have hbox:(Box g e' cur.toList).p (hp w):=⟨_,hg,fr,by simp,fun i hi=>hfz i (by simpa using hi)⟩
        have hvl:((ys.take (min ys.length n)).map E.enc).flatten.length=min ys.length n*E.sz:=by
          rw [zEr]; simp
        have hroom:lo*E.sz+min ys.length n*E.sz≤xs.length*E.sz:=by
          rw [←Nat.add_mul]; exact Nat.mul_le_mul_right _ (by omega)
        have Yx:xs.length*E.sz≤c*E.sz:=Nat.mul_le_mul_right _ hnc
        obtain ⟨w',hrr,hwr,hb⟩:=kL (P:=P) ((ys.take (min ys.length n)).map E.enc).flatten cur.toList (lo*E.sz) 0 w hbox (by simp only [Array.length_toList,hcs,hvl]; omega) (zQC E _)
        have hbk:=hbk g hA hpos
        have Dh:=hrr
        rw [List.map_take] at Dh
        refine ⟨w',?_,hwr.toSame,hf'.exchange (hbk▸hwr) (rN _ _) (fun j hj=>?_) ?_⟩
        · simp [execOp,resolve,invoke,builtin,Builtin.copy_,ha.eval hx,ha.eval hy,run_underlying hu',Builtin.lenOf,hsz,hn,hnm,hfc,goInt,Dh]
        · exact ⟨Nat.lt_of_lt_of_le (hf'.lt (by simp only [yB,As.gs,List.mem_append]; exact .inl hj)) hwr.size, .inl hj⟩
        · have hlen : (xs.take lo ++ ys.take (min ys.length n) ++ xs.drop (lo + min ys.length n)).length = xs.length := by
            simp only [List.length_append,List.length_take,List.length_drop]; omega
          obtain ⟨o,ho,fr',rfl,hfz'⟩:=hb
          refine ⟨by simp,vk E.len E.one _, .inr ⟨g,_,fr',hpos,hA,ho,?_,by omega,hc,?_,fun i hi=>hfz' i (by simpa using hi)⟩⟩
          · simp only [List.size_toArray, List.length_append, List.length_take, List.length_drop, Array.length_toList, hcs, hvl]
            omega
          · rw [hlen]
            have hcur:cur.toList.take (xs.length*E.sz)=(xs.map E.enc).flatten:=htk
            have hcl:cur.toList.length=c*E.sz:=by simp [hcs]
            simp only [List.map_append,List.flatten_append,Nat.add_zero]
            rw [←zIr E xs lo,←zIu E xs,←hcur,hvl,Nat.add_mul]
            generalize hvs:((ys.take (min ys.length n)).map E.enc).flatten=vs at hvl ⊢
            generalize hP:lo*E.sz=p at*
            generalize hKK:min ys.length n*E.sz=q at*
            generalize hX:xs.length*E.sz=X at*
            apply List.ext_getElem?
            intro z
            simp only [List.getElem?_take,List.getElem?_append,List.length_append,List.length_take,List.length_drop,List.getElem?_drop,hcl,hvl]
            have e1:min p (c*E.sz)=p:=by omega
            have e2:min p (min X (c*E.sz))=p:=by omega
            rw [e1,e2]
            by_cases c1:z<p
            · simp only [c1,show z<X by omega,show z<p+q by omega,if_true]
            · by_cases c2 : z < p + q
              · simp only [c1,c2,show z<X by omega,if_true,if_false]
              · by_cases c3 : z < X
                · simp only [c1, c2, c3, if_true, if_false]
                  rw [if_pos (by omega)]
                · simp only [c1, c2, c3, if_false]
                  rw [if_neg (by omega)]
    obtain ⟨w',hrun,hsame,JX⟩:=go
    unfold Oper.wp
    rw [hrun]
    exact hK _ _ (k _ _ (by simp [Act.put,hs]) hdf (ha.put (hs▸Nat.le_of_ble_eq_true hd)) JX (hw.trans hsame))
theorem zMh {A:Option Addr} {n c sz:Nat} (h0:∀ ad,A=some ad→ad.add 0=ad):∀ ad,A=some ad→0<n→0<c→A=some (ad.add (0*sz)):=fun ad hA _ _=>by rw [Nat.zero_mul,h0 ad hA]; exact hA
theorem zOD {A AE:Option Addr} {n c cc lo sz:Nat} (hp:iY AE cc A c lo sz):∀ ad,A=some ad→0<n→lo<c→AE=some (ad.add (lo*sz)):=fun ad hA _ hlt=>by
 rw [hp.2 hlt,hA]
 rfl
theorem St.Di {α:Type} {E:Enc α} {t t2 e e' n c m cs:Nat} {i j:TI} {x y:Operand} {A S:Option Addr} {xs ys zs:List α} (hz:eB xs 0 xs.length ys=some zs) (hd:Nat.blt d nt=true) (hx:ev Γ x=some (.slice A n c)) (hy:ev Γ y=some (.slice S m cs)) (hm:m=ys.length) (hnx:n=xs.length)
  (hD:Del F (.res (zI E e' A c xs)) G) (hsrc:∀ w,Sat F w→JJ (CY E) S cs ys (hp w)) (hi:yK T.tt t=some i) (hdesc:i.desc= .slice e) (hj:yK T.tt e=some j) (hn:j.size=E.sz)
  (k:St w0 nt ((d, .int .i64 ((min ys.length xs.length:Nat):Int))::Γ) (.res (zI E e' A c zs)::G) (wpList P ops Q rest)):
  St w0 nt Γ F (wpList P ops Q (⟨some d, .call { callee:=.builtin .copy,args:=#[x,y],argTypes:=#[t,t2] },ty,pos,af,none⟩::rest)):=by
 subst hnx
 refine St.VF hz hd hx hy hm (zMh fun ad hA=>?_) hD hsrc hi hdesc hj hn k
 unfold Addr.add
 simp
theorem St.Dj {α:Type} {E:Enc α} {t t2 e e' lo n c cc m cs:Nat} {i j:TI} {x y:Operand} {A AE S:Option Addr} {xs ys zs:List α} (hp:iY AE cc A c lo E.sz) (hz:eB xs lo n ys=some zs) (hd:Nat.blt d nt=true) (hx:ev Γ x=some (.slice AE n cc)) (hy:ev Γ y=some (.slice S m cs)) (hm:m=ys.length)
  (hD:Del F (.res (zI E e' A c xs)) G) (hsrc:∀ w,Sat F w→JJ (CY E) S cs ys (Go.Proofs.YtplchdlgdjcojaaGreatDoor.hp w)) (hi:yK T.tt t=some i) (hdesc:i.desc= .slice e) (hj:yK T.tt e=some j) (hn:j.size=E.sz)
  (k:St w0 nt ((d, .int .i64 ((min ys.length n:Nat):Int))::Γ) (.res (zI E e' A c zs)::G) (wpList P ops Q rest)):
  St w0 nt Γ F (wpList P ops Q (⟨some d, .call { callee:=.builtin .copy,args:=#[x,y],argTypes:=#[t,t2] },ty,pos,af,none⟩::rest)):=
 St.VF hz hd hx hy hm (zOD hp) hD hsrc hi hdesc hj hn k
theorem zMZ {α:Type} {E:Enc α} {A:Option Addr} {c:Nat} {ys:List α} (hm:As.ro (AV E A c ys)∈F):∀ w,Sat F w→JJ (CY E) A c ys (hp w):=fun w h=>h.KR hm
theorem zOM {α:Type} {E:Enc α} {A AE:Option Addr} {c cc e lo n:Nat} {xs ys:List α} (hp:iY AE cc A c lo E.sz) (hz:sub xs (lo:Int) ((lo+n:Nat):Int)=some ys) (hm:As.res (zI E e A c xs)∈F):∀ w,Sat F w→JJ (CY E) AE cc ys (Go.Proofs.YtplchdlgdjcojaaGreatDoor.hp w):=fun w h=>zHw hp hz hm h
theorem zTU {α:Type} {xs ys:List α} {lo n:Nat} (hz:sub xs (lo:Int) ((lo+n:Nat):Int)=some ys):n=ys.length:=by have:=vg hz; omega
end
def wo:Option Nat→Value
 | none=>.nilFunc
 | some f=>.func (.func f) #[] #[]
def VG (tab:List (Int × Option Nat)) (q:Int):Value:=wo ((vW (yH .i64).eq tab q).getD none)
def ZE (tab:List (Int × Option Nat)) (q:Int):Bool:=tab.any fun e=>q==e.1
theorem zSp {v u:Value} (h:v=u):some v=some u:=by rw [h]
theorem Yy {q k:Int} {f:Nat} {tab:List (Int × Option Nat)} (h:(q==k)=true):VG ((k,some f)::tab) q= .func (.func f) #[] #[]:=by
 simp [VG,vW,yH,h,wo]
theorem zQk {q k:Int} {f:Nat} {tab:List (Int × Option Nat)} (h:(q==k)=false):VG ((k,some f)::tab) q=VG tab q:=by
 simp [VG,vW,yH,h]
def wu (g:Nat) (tab:List (Int × Option Nat)):Ro where
 p m:=∃ tab',(∀ q,vW (yH .i64).eq tab' q=vW (yH .i64).eq tab q)∧(nH (yH .i64) wo g tab').p m
 mono _ _ h:=fun ⟨tab',hq,es,cl,ho,hb⟩=>⟨tab',hq,es,cl,h _ _ ho,hb⟩
def TS (g:Nat) (tab:List (Int × Option Nat)):Ro where
 p m:=∃ gm,fZ m g 0=some (.map (some gm))∧(wu gm tab).p m
 mono m m' h:=fun ⟨gm,h1,h2⟩=>⟨gm,Xm h h1,(wu gm tab).mono _ _ h h2⟩
def zRS (AE:Option Addr) (A:Option Addr) (n c lo sz:Nat):Prop:=∀ ad,A=some ad→0<n→lo<c→AE=some (ad.add (lo*sz))
def eu {α:Type} (b:Nat) (l c:Int):Option (List α):=if l=0∧0≤c∧c*b≤281474976710656∧c≤9223372036854775807 then some [] else none
section
variable {P:Program} [T:FP P] {w0:World} {nt:Nat} {Γ Γ':Env} {F F' G R:List As} {Q:Exit→Act→World→Prop} {ops:Array Oper} {rest:List Oper}
variable {d:Nat} {op:Op} {ty:Nat} {pos:String} {af:Array Edge} {X:List Oper→Act→World→Prop} {Post:Value→List As→Prop}
theorem St.DK {Y:Act→World→Prop} {g:Nat} {tab:List (Int × Option Nat)} (hm:As.ro (TS g tab)∈F) (k:∀ gm,St w0 nt Γ (.ro (oU g 0 [.map (some gm)]):: .ro (wu gm tab)::F) Y):St w0 nt Γ F Y:=
 fun a w hs hdf ha hf hw=>by
  obtain ⟨gm,h1,h2⟩:=hf.ro hm
  have hf1:=hf.FI (wu gm tab) h2
  refine k gm a w hs hdf ha (hf1.FI (oU g 0 [.map (some gm)]) ?_) hw
  intro i u hu
  have e:yB (.ro (wu gm tab)::F)=yB F:=by simp [yB,As.gs]
  rw [e]
  match i,hu with
  | 0,hu=>simp at hu; subst hu; exact h1
  | i+1,hu=>simp at hu
theorem St.OW [W:Walk P ops X] {t kt e:Nat} {i j l:TI} {g:Nat} {tab:List (Int × Option Nat)} {x y:Operand} {q:Int} (hd:Nat.blt d nt=true) (hx:ev Γ x=some (.map (some g))) (hy:ev Γ y=some (.int .i64 q)) (hm:As.ro (wu g tab)∈F)
  (hi:yK T.tt t=some i) (hdesc:i.desc= .map kt e) (hj:yK T.tt kt=some j) (hjd:j.desc= .int .i64) (hl:yK T.tt e=some l) (hz:l.zero= .nilFunc)
  (c:St w0 nt ((d,VG tab q)::Γ) F (X rest)):St w0 nt Γ F (X (⟨some d, .lookup t x y false,ty,pos,af,none⟩::rest)):=
 fun a w hs hdf ha hf hw=>by
  refine W.val _ _ _ _ _ (xD O _) (fun w' he=>?_) (c _ w (by simp [Act.put,hs]) hdf (ha.put (hs▸Nat.le_of_ble_eq_true hd)) hf hw)
  obtain ⟨tab',hq,hm'⟩:=(hf.ext he).KR hm
  have:=fQ (P:=P) (K:=yH .i64) (vv:=wo) (none:Option Nat) false hi hdesc hj hjd hl hz q hm'
  rw [hq] at this
  have hy':a.eval y=(yH .i64).v q:=ha.eval hy
  simp [execOp,ha.eval hx,hy',this,vw,VG]
theorem zJz {t:Nat} {ps rs:Array TypeId} {vd:Bool} {w:World} (hu:(underlying t).run P w= .ok (.func ps rs vd) w) (f:Nat):(Op.equal t (.func (.func f) #[] #[]) .nilFunc).run P w= .ok false w:=by
 show (Op.equalIn (9999+1) t (.func (.func f) #[] #[]) .nilFunc).run P w= .ok false w
 unfold Op.equalIn
 simp [hu]
theorem zJx {t:Nat} {ps rs:Array TypeId} {vd:Bool} {w:World} (hu:(underlying t).run P w= .ok (.func ps rs vd) w):(Op.equal t .nilFunc .nilFunc).run P w= .ok true w:=by
 show (Op.equalIn (9999+1) t .nilFunc .nilFunc).run P w= .ok true w
 unfold Op.equalIn
 simp [hu]
theorem St.gq [W:Walk P ops X] {t yt:Nat} {tab:List (Int × Option Nat)} {q:Int} {o:BinOp} {r:Bool} {x y:Operand} (hd:Nat.blt d nt=true) (hx:ev Γ x=some (VG tab q)) (hy:ev Γ y=some .nilFunc) (hu:(match P.underlying t with | some (.func _ _ _)=>true | _=>false)=true)
  (hall:(tab.all fun e=>e.2.isSome)=true) (ho:(o= .eql∧r=!(ZE tab q))∨(o= .neq∧r=ZE tab q))
  (k:St w0 nt ((d, .bool r)::Γ) F (X rest)):St w0 nt Γ F (X (⟨some d, .binOp o t x y yt,ty,pos,af,none⟩::rest)):=
 St.val hd (fun a w ha _=>by
  cases hu':P.underlying t with
  | none=>rw [hu'] at hu; simp at hu
  | some de=>
  cases de with
  | func ps rs vd=>
   have hlow:∀ (tab:List (Int × Option Nat)),(tab.all fun e=>e.2.isSome)=true→(ZE tab q=true∧∃ f,VG tab q= .func (.func f) #[] #[])∨(ZE tab q=false∧VG tab q= .nilFunc):=by
    intro tab
    induction tab with
    | nil=>intro _; exact .inr ⟨O,O⟩
    | cons e tab ih=>
     intro ha
     obtain ⟨ek,ev⟩:=e
     simp only [List.all_cons,Bool.and_eq_true] at ha
     cases ev with
     | none=>simp at ha
     | some f=>
      cases hq:(q==ek)
      ·rw [zQk hq]
       have:ZE ((ek,some f)::tab) q=ZE tab q:=by simp [ZE,hq]
       rw [this]
       exact ih ha.2
      ·exact .inl ⟨by simp [ZE,hq],f,Yy hq⟩
   have hg:(eqGuard o t x y (VG tab q) .nilFunc).run P w= .ok () w:=by
    unfold eqGuard
    rcases hlow tab hall with ⟨_,f,hf⟩ | ⟨_,hf⟩ <;> rw [hf] <;> rcases ho with ⟨rfl,_⟩ | ⟨rfl,_⟩ <;> simp
   have hun:=run_underlying (w:=w) hu'
   rcases hlow tab hall with ⟨h1,f,hf⟩ | ⟨h1,hf⟩ <;> rw [h1] at ho <;> rcases ho with ⟨rfl,rfl⟩ | ⟨rfl,rfl⟩ <;>
    (rw [hf] at hg hx; simp [execOp,ha.eval hx,ha.eval hy,hg,binOp,zJz hun,zJx hun])
  | _=>rw [hu'] at hu; simp at hu) k
theorem St.Yz [W:Walk P ops X] {α:Type} {E:FQ α} {t e:Nat} {i j:TI} {A:Option Addr} {n c:Nat} {xs ys:List α} {lo:Option Operand} {hi mx:Operand} {l h:Int} {k1 k2:IntKind} {ox:Operand} (hd:Nat.blt d nt=true) (hx:ev Γ ox=some (.slice A n c)) (hm:As.ro (Sl E A c xs)∈F) (hlen:n=xs.length)
    (hl:vS Γ 0 lo=some l) (hh:ev Γ hi=some (.int k1 h)) (hmx:ev Γ mx=some (.int k2 h)) (hi':yK T.tt t=some i) (hdesc:i.desc= .slice e) (hj:yK T.tt e=some j) (hn:j.size=E.n) (hz:Go.Proofs.YtplchdlgdjcojaaGreatDoor.sub xs l h=some ys)
    (k:∀ A' c',St w0 nt ((d, .slice A' ys.length c')::Γ) (.ro (Sl E A' c' ys)::F) (X rest)):St w0 nt Γ F (X (⟨some d, .slice t ox lo (some hi) (some mx),ty,pos,af,none⟩::rest)):=
  fun a w hs hdf ha hf hw=>by
    obtain ⟨h0,h1,h2,_⟩:=bA hz
    have hyl:=vg hz
    have hsl:JJ E A c xs (GV (yB F) w):=hf.ro hm
    have hcap:=hsl.1
    subst hlen
    have UO:ys.length=h.toNat - l.toNat:=by omega
    have hb:∀ w',(Instr.sliceBounds true xs.length c (lo.map a.eval) (some (.int k1 h)) (some (.int k2 h))).run P w'= .ok (l.toNat,h.toNat,h.toNat) w':=fun w'=>by
      have g1:(0≤h∧h≤(c:Int)):=⟨by omega,by omega⟩
      have hmax:max h 0=h:=by omega
      cases lo with
      | none=>
        simp only [vS] at hl
        injection hl with hl; subst hl
        simp [Instr.sliceBounds,Instr.sliceBound,asIntOf,g1,hmax]
      | some x=>
        simp only [vS] at hl
        split at hl
        · rename_i kk m hxx
          injection hl with hl
          subst hl
          simp [Instr.sliceBounds,Instr.sliceBound,asIntOf,ha.eval hxx,g1,hmax,h0,h1]
        · cases hl
    refine St.val (F:=F) hd (v:=.slice (if h.toNat=l.toNat then A else A.map (·.add (l.toNat*E.n))) ys.length (h.toNat - l.toNat)) (fun a' w' ha' _=>?_)
      (fun a w hs hdf ha hf hw=>k _ _ a w hs hdf ha (hf.FI (Sl E _ _ ys) ?_) hw) a w hs hdf ha hf hw
    · obtain ⟨dd, hu, hdd⟩ := T.ok.desc hi'
      have hb':(Instr.sliceBounds true xs.length c (lo.map a'.eval) (some (.int k1 h)) (some (.int k2 h))).run P w'= .ok (l.toNat,h.toNat,h.toNat) w':=by
        have:lo.map a'.eval=lo.map a.eval:=by
          cases lo with
          | none=>rfl
          | some x=>
            simp only [vS] at hl
            split at hl
            · rename_i kk m hxx
              simp [ha'.eval hxx,ha.eval hxx]
            · cases hl
        rw [this]
        exact hb w'
      simp [execOp,Instr.sliceAt,Instr.slice,ha'.eval hx,ha'.eval hh,ha'.eval hmx,run_underlying hu,TD.of_slice (hdd.trans hdesc),hb',yI T.ok hj,hn,UO]
    · have hs1 := JJ.sub (hf.ro hm) hz
      obtain ⟨s1,s2,s3,s4⟩:=hs1
      have hcm:c≤maxLen:=hsl.2.1
      refine ⟨by omega,by omega,fun hA=>?_,fun ad hA q y hy=>?_⟩
      · by_cases he : h.toNat = l.toNat
        · exact List.eq_nil_of_length_eq_zero (by omega)
        · rw [if_neg he] at hA
          refine s3 ?_
          rw [if_neg (by omega)]
          exact hA
      · have hlt := (List.getElem?_eq_some_iff.1 hy).1
        rw [if_neg (by omega)] at hA
        exact s4 ad (by rw [if_neg (by omega)]; exact hA) q y hy
theorem St.Dk [W:Walk P ops X] {α:Type} {E:Enc α} {t e e':Nat} {i j:TI} {A:Option Addr} {n c m:Nat} {xs:List α} {lo:Option Operand} {hi mx:Operand} {l h:Int} {k1 k2:IntKind} {ox:Operand} (hz:tD xs.length l h=some m) (hd:Nat.blt d nt=true) (hx:ev Γ ox=some (.slice A n c)) (hm:As.res (zI E e' A c xs)∈F) (hlen:n=xs.length)
    (hl:vS Γ 0 lo=some l) (hh:ev Γ hi=some (.int k1 h)) (hmx:ev Γ mx=some (.int k2 h)) (hi':yK T.tt t=some i) (hdesc:i.desc= .slice e) (hj:yK T.tt e=some j) (hn:j.size=E.sz)
    (k:∀ AE cc,zRS AE A m c l.toNat E.sz→St w0 nt ((d, .slice AE m cc)::Γ) F (X rest)):St w0 nt Γ F (X (⟨some d, .slice t ox lo (some hi) (some mx),ty,pos,af,none⟩::rest)):=
  fun a w hs hdf ha hf hw=>by
    obtain ⟨h0,h1,h2,rfl⟩:=zMT hz
    have hown:nV E.sz e' A xs.length c (xs.map E.enc) (hp w):=hf.res hm
    have hcap:xs.length≤c:=by
      rcases hown.2.2 with ⟨_,_⟩ | ⟨_,_,_,_,_,_,_,hh,_⟩ <;> omega
    subst hlen
    have hb:∀ w',(Instr.sliceBounds true xs.length c (lo.map a.eval) (some (.int k1 h)) (some (.int k2 h))).run P w'= .ok (l.toNat,h.toNat,h.toNat) w':=fun w'=>by
      have g1:(0≤h∧h≤(c:Int)):=⟨by omega,by omega⟩
      have hmax:max h 0=h:=by omega
      cases lo with
      | none=>
        simp only [vS] at hl
        injection hl with hl; subst hl
        simp [Instr.sliceBounds,Instr.sliceBound,asIntOf,g1,hmax]
      | some x=>
        simp only [vS] at hl
        split at hl
        · rename_i kk m hxx
          injection hl with hl
          subst hl
          simp [Instr.sliceBounds,Instr.sliceBound,asIntOf,ha.eval hxx,g1,hmax,h0,h1]
        · cases hl
    refine St.val (F:=F) hd (v:=.slice (if h.toNat=l.toNat then A else A.map (·.add (l.toNat*E.sz))) (h.toNat - l.toNat) (h.toNat - l.toNat)) (fun a' w' ha' _=>?_)
      (k _ _ (fun ad hA hpos _=>by rw [if_neg (by omega),hA]; rfl)) a w hs hdf ha hf hw
    obtain ⟨dd,hu,hdd⟩:=T.ok.desc hi'
    have hb':(Instr.sliceBounds true xs.length c (lo.map a'.eval) (some (.int k1 h)) (some (.int k2 h))).run P w'= .ok (l.toNat,h.toNat,h.toNat) w':=by
      have:lo.map a'.eval=lo.map a.eval:=by
        cases lo with
        | none=>rfl
        | some x=>
          simp only [vS] at hl
          split at hl
          · rename_i kk m hxx
            simp [ha'.eval hxx,ha.eval hxx]
          · cases hl
      rw [this]
      exact hb w'
    simp [execOp,Instr.sliceAt,Instr.slice,ha'.eval hx,ha'.eval hh,ha'.eval hmx,run_underlying hu,TD.of_slice (hdd.trans hdesc),hb',yI T.ok hj,hn]
theorem zMj {f:FuncId} (he:BX P f) {a:Act} {x:Operand} {xs:List Operand} {vs us:List Value} {ts:Array Nat} (hx:a.eval x= .func (.func f) us.toArray #[]) (hxs:xs.map a.eval=vs) (w:World) (dst:Option Nat) (g:Option (Nat × Bool)):
  (execOp a.eval ⟨dst, .call { callee:=.value x,args:=xs.toArray,argTypes:=ts },ty,pos,af,g⟩).run P w= .ok (.enter f (us++vs).toArray) w:=by
 obtain ⟨fn,h1,h2,h3⟩:=he
 subst hxs
 have hc:∀ args:Array Value,(callFunc f args).run P w= .ok (.enter f args) w:=fun args=>by
  unfold callFunc
  rw [Sem.run_bind,run_program]
  simp only [Result.andThen_ok,h1,h2,h3,Bool.false_eq_true,if_false,Sem.run_pure]
 simp [execOp,resolve,hx,Deferred.ofValue,invoke,hc]
theorem St.ZF {f:FuncId} {args us:List Value} {G:List As} {x:Operand} {xs:List Operand} {ts:Array Nat} (h:BA P f (us++args) G Post) (he:BX P f) (hd:Nat.blt d nt=true) (hx:ev Γ x=some (.func (.func f) us.toArray #[])) (hxs:evs Γ xs=some args)
  (hF:∀ w,Sat F w→Sat (G++R) w) (k:∀ v F',Post v F'→St w0 nt ((d,v)::Γ) (F'++R) (wpList P ops Q rest)):
  St w0 nt Γ F (wpList P ops Q (⟨some d, .call { callee:=.value x,args:=xs.toArray,argTypes:=ts },ty,pos,af,none⟩::rest)):=
 fun a w hs hdf ha hf hw=>wpList_plain O fun K hK=>by
  unfold Oper.wp
  rw [zMj he (ha.eval hx) (ha.KQ hxs)]
  show Calls P f (us++args).toArray w _
  refine (h w R (hF w hf)).mono fun e w' ⟨v,F',h1,h2,h3,h4⟩=>?_
  subst h1
  exact hK _ _ (k v F' h2 _ _ (by simp [Act.put,hs]) hdf (ha.put (hs▸Nat.le_of_ble_eq_true hd)) h3 (hw.trans h4))
theorem St.eu {α:Type} {E:FQ α} {t e:Nat} {i j:TI} {x y:Operand} {l c:Int} {b:Nat} {xs:List α} (hxs:Go.Proofs.YtplchdlgdjcojaaGreatDoor.eu b l c=some xs) (hd:Nat.blt d nt=true) (hx:ev Γ x=some (.int .i64 l)) (hy:ev Γ y=some (.int .i64 c)) (hi:yK T.tt t=some i) (hdesc:i.desc= .slice e) (hj:yK T.tt e=some j)
  (hsz:j.size=E.n) (hby:j.bytes=b) (hz:Nat.beq (zc j.zero).length j.size=true) (h1:(zc j.zero).all (fun u=>u.oneCell')=true) (hpos:Nat.blt 0 j.size=true)
  (k:∀ g,St w0 nt ((d, .slice (some ⟨g,0,none⟩) xs.length c.toNat)::Γ) (.res (yU E e (some ⟨g,0,none⟩) c.toNat xs)::F) (wpList P ops Q rest)):
  St w0 nt Γ F (wpList P ops Q (⟨some d, .makeSlice t x y,ty,pos,af,none⟩::rest)):=by
 unfold Go.Proofs.YtplchdlgdjcojaaGreatDoor.eu at hxs
 split at hxs
 ·rename_i hc
  obtain ⟨rfl,hc0,hcb,hcm⟩:=hc
  injection hxs with hxs
  subst hxs
  subst hby
  refine St.makeSlice hd hx hy hi hdesc hj hz hpos h1 (Int.le_refl 0) hc0 hcb hcm fun g=>?_
  refine St.AY (F':=.res (yU E e (some ⟨g,0,none⟩) c.toNat ([]:List α))::F) (fun w hw=>?_) (k g)
  rw [hsz] at hw
  exact Sat.TF (rows:= []) (n:=0) hw O ⟨O,fun q x r hx=>by simp at hx⟩
 ·cases hxs
end
open Go Go.WideElems
def XY (P:Program):List (Int × Option Nat)→List (Lit × DataW (List UInt8))→Prop
 | [], []=>True
 | (i,some f)::r,(.int .i64 j, .held (b::s))::r'=>i=j∧((List.range P.funcs.size).filter fun f=>(P.funcs[f]?).any (·.name.toUTF8.data.toList==b::s))= [f]∧XY P r r'
 | _,_=>False
theorem XY.mem {P:Program}:∀ {tab:List (Int × Option Nat)} {L:List (Lit × DataW (List UInt8))},XY P tab L→∀ x∈L,∃ i f b s,x=(.int .i64 i, .held (b::s))∧(i,some f)∈tab∧((List.range P.funcs.size).filter fun f=>(P.funcs[f]?).any (·.name.toUTF8.data.toList==b::s))= [f]
 | [], [],_,x,hx=>by cases hx
 | (i,some f)::r,(.int .i64 j, .held (b::s))::r',h,x,hx=>by
  obtain ⟨rfl,h1,h2⟩:=h
  rcases List.mem_cons.1 hx with rfl | hx
  ·exact ⟨i,f,b,s,O,List.mem_cons_self ..,h1⟩
  ·obtain ⟨i',f',b',s',e1,e2,e3⟩:=XY.mem h2 x hx
   exact ⟨i',f',b',s',e1,List.mem_cons_of_mem _ e2,e3⟩
theorem XY.key {P:Program}:∀ {tab:List (Int × Option Nat)} {L:List (Lit × DataW (List UInt8))},XY P tab L→∀ y∈tab,∃ x∈L,x.1= .int .i64 y.1
 | [], [],_,x,hx=>by cases hx
 | (i,some f)::r,(.int .i64 j, .held (b::s))::r',h,y,hy=>by
  obtain ⟨rfl,h1,h2⟩:=h
  rcases List.mem_cons.1 hy with rfl | hy
  ·exact ⟨_,List.mem_cons_self ..,O⟩
  ·obtain ⟨x,e1,e2⟩:=XY.key h2 y hy
   exact ⟨x,List.mem_cons_of_mem _ e1,e2⟩
theorem zPl {P:Program} {W:World} {l:List (String × DataW Unit)} {nm:String} {d:List (Lit × DataW Unit)} {g t k e:Nat} {ps rs:Array TypeId} {va:Bool} {tab:List (Int × Option Nat)}
  (hL:laidMetH P l W) (hmem:(nm,DataW.iface "func table" (.map d))∈l) (hg:P.globalNamed nm=some g) (ht:(P.globals[g]?).map (·.type)=some t) (hu:P.underlying t=some (.map k e)) (hk:P.underlying k=some (.int .i64)) (he:P.underlying e=some (.func ps rs va))
  (hT:XY P tab (DataW.funcsOutEntries d)):
  ∃ b es clock,W.cell? ⟨g,0,none⟩=some (.map (some b))∧W.heap[b]? =some (.map es clock)∧
   (∀ x∈es.toList,∃ i f,x.key= .int .i64 i∧x.val= .func (.func f) #[] #[]∧(i,some f)∈tab)∧(∀ y∈tab,∃ x∈es.toList,x.key= .int .i64 y.1):=by
 obtain ⟨g',t',cs,fuel,p,hg',ht',hv,hd⟩:=hL.funcs hmem
 obtain rfl:=Option.some.inj (hg.symm.trans hg')
 obtain rfl:=Option.some.inj (ht.symm.trans ht')
 have hd':DataW.trod (funcToken P) P W 0 (fun _=>true) true fuel t cs.toList=some (.map (DataW.funcsOutEntries d),p):=by
  rw [hd]; rfl
 rcases open_map hu hd' with ⟨_,hx⟩ | ⟨b,es,clock,n,rfl,hcs,hb,_,F,hx⟩
 ·cases hx
 ·simp only [Prod.mk.injEq,DataW.map.injEq] at hx
  have hcell:W.cell? ⟨g,0,none⟩=some (.map (some b)):=by
   have:=World.var?_cell hg hv 0
   rw [Array.eq_one_of_toList hcs] at this
   simpa using this
  have hperm:(DataW.funcsOutEntries d).Perm (es.toList.map (rg P k (elemAt (funcToken P) P W 0 (fun _=>true) true n e))):=by
   rw [hx.1]; exact Go.WideShapes.sorted_perm _
  refine ⟨b,es,clock,hcell,hb,fun x hxe=>?_,fun y hy=>?_⟩
  ·obtain ⟨y,hy⟩:=F.reads x hxe
   have hm:=hperm.mem_iff.2 (List.mem_map_of_mem hxe)
   rw [rg_of hy] at hm
   obtain ⟨i,f,c,s,rfl,h2,h3⟩:=hT.mem y hm
   have hkey:=rd_key hy
   obtain ⟨z,hz1,hz2⟩:=rd_val hy
   refine ⟨i,f,?_,?_,h2⟩
   ·simp only [keyOf,hk,mapKey] at hkey
    split at hkey
    ·rename_i h1 _; cases h1
    ·rename_i q q' m h1 h4
     injection h1 with h1; injection h1 with h1
     subst h1
     split at hkey
     ·rename_i hc
      injection hkey with hkey
      injection hkey with _ hkey
      rw [h4,hc.1,hkey]
     ·cases hkey
    ·rename_i h1 _; cases h1
    ·cases hkey
   ·unfold elemAt at hz1
    split at hz1
    ·rename_i hfo
     obtain ⟨z1,z2⟩:=z
     simp only at hz2
     subst hz2
     have hcells:x.val.cells.toList= [x.val]:=by
      revert hfo
      cases x.val <;> simp [Value.formed,he,Value.cells]
     rw [hcells] at hz1
     exact func_of_trod he h3 hz1
    ·cases hz1
  ·obtain ⟨x,hx1,hx2⟩:=hT.key y hy
   have hm:=hperm.mem_iff.1 hx1
   obtain ⟨z,hz,rfl⟩:=List.mem_map.1 hm
   refine ⟨z,hz,?_⟩
   obtain ⟨u,hu2⟩:=F.reads z hz
   rw [rg_of hu2] at hx2
   have hkey:=rd_key hu2
   rw [hx2] at hkey
   simp only [keyOf,hk,mapKey] at hkey
   split at hkey
   ·rename_i h1 _; cases h1
   ·rename_i q q' m h1 h4
    injection h1 with h1; injection h1 with h1
    subst h1
    split at hkey
    ·rename_i hc
     injection hkey with hkey
     injection hkey with _ hkey
     rw [h4,hc.1,hkey]
    ·cases hkey
   ·rename_i h1 _; cases h1
   ·cases hkey
theorem zLm {l:List (Int × Option Nat)} {q:Int} {v:Option Nat} (h:vW (yH .i64).eq l q=some v):(q,v)∈l:=by
 induction l with
 | nil=>cases h
 | cons x r ih=>
  unfold vW at h
  cases hq:(yH .i64).eq q x.1 with
  | false=>rw [hq] at h; exact List.mem_cons_of_mem _ (ih h)
  | true=>
   rw [hq] at h
   injection h with h
   have:q=x.1:=eq_of_beq (show (q==x.1)=true from hq)
   subst this; subst h
   exact List.mem_cons_self ..
theorem zRJ {l:List (Int × Option Nat)} {q:Int} (h:vW (yH .i64).eq l q=none):∀ y∈l,y.1≠q:=by
 induction l with
 | nil=>intro y hy; cases hy
 | cons x r ih=>
  unfold vW at h
  cases hq:(yH .i64).eq q x.1 with
  | true=>rw [hq] at h; cases h
  | false=>
   rw [hq] at h
   intro y hy
   rcases List.mem_cons.1 hy with rfl | hy
   ·intro e
    have:(yH .i64).eq q y.1=true:=by rw [e]; exact beq_self_eq_true q
    rw [this] at hq; cases hq
   ·exact ih h y hy
theorem zRB {l:List (Int × Option Nat)} {q:Int} {v:Option Nat} (hn:(l.map Prod.fst).Nodup) (h:(q,v)∈l):vW (yH .i64).eq l q=some v:=by
 induction l with
 | nil=>cases h
 | cons x r ih=>
  simp only [List.map_cons,List.nodup_cons] at hn
  unfold vW
  rcases List.mem_cons.1 h with rfl | h
  ·have:(yH .i64).eq q q=true:=beq_self_eq_true q
   rw [this]; rfl
  ·cases hq:(yH .i64).eq q x.1 with
   | false=>exact ih hn.2 h
   | true=>
    have:q=x.1:=eq_of_beq (show (q==x.1)=true from hq)
    subst this
    exact absurd (List.mem_map_of_mem (f:=Prod.fst) h) hn.1
theorem zEp {tab:List (Int × Option Nat)}:∀ {es:List MapEntry},(∀ x∈es,∃ i f,x.key= .int .i64 i∧x.val= .func (.func f) #[] #[]∧(i,some f)∈tab)→
  ∃ tab',es.map (fun e=>(e.key,e.val))=UG (yH .i64) wo tab'∧(∀ y∈tab',y∈tab)
 | [],_=>⟨[],O,fun y hy=>by cases hy⟩
 | x::es,h=>by
  obtain ⟨i,f,h1,h2,h3⟩:=h x (List.mem_cons_self ..)
  obtain ⟨t,e1,e2⟩:=zEp (es:=es) fun y hy=>h y (List.mem_cons_of_mem _ hy)
  refine ⟨(i,some f)::t,?_,fun y hy=>?_⟩
  ·simp only [List.map_cons,UG,h1,h2]
   rw [e1]; rfl
  ·rcases List.mem_cons.1 hy with rfl | hy
   ·exact h3
   ·exact e2 y hy
theorem zOf {P:Program} {W:World} {l:List (String × DataW Unit)} {nm:String} {d:List (Lit × DataW Unit)} {g t k e:Nat} {ps rs:Array TypeId} {va:Bool} {tab:List (Int × Option Nat)}
  (hL:laidMetH P l W) (hmem:(nm,DataW.iface "func table" (.map d))∈l) (hg:P.globalNamed nm=some g) (ht:(P.globals[g]?).map (·.type)=some t) (hu:P.underlying t=some (.map k e)) (hk:P.underlying k=some (.int .i64)) (he:P.underlying e=some (.func ps rs va))
  (hT:XY P tab (DataW.funcsOutEntries d)) (hn:(tab.map Prod.fst).Nodup):(TS g tab).p (hp W):=by
 obtain ⟨b,es,clock,hc,hb,h1,h2⟩:=zPl hL hmem hg ht hu hk he hT
 obtain ⟨t',e1,e2⟩:=zEp h1
 refine ⟨b,by rw [Az]; exact hc,t',fun q=>?_,es,clock,hb,e1⟩
 cases hq:vW (yH .i64).eq t' q with
 | some v=>exact (zRB hn (e2 _ (zLm hq))).symm
 | none=>
  cases hq2:vW (yH .i64).eq tab q with
  | none=>rfl
  | some v=>
   obtain ⟨x,hx,hxk⟩:=h2 _ (zLm hq2)
   have hm:(x.key,x.val)∈UG (yH .i64) wo t':=by
    rw [←e1]; exact List.mem_map_of_mem (f:=fun e:MapEntry=>(e.key,e.val)) hx
   obtain ⟨y,hy,hye⟩:=List.mem_map.1 hm
   have:y.1=q:=by
    injection hye with hye _
    rw [hxk] at hye
    injection hye
   exact absurd this (zRJ hq y hy)
open Go Go.ChangeShapes Go.WideShapes Go.RowKit
def dG {α:Type} (P:Program) (E:FQ α) (φ:α→Prop) (t:TypeId):Prop:=∀ {H:Type} {enc:TypeId × Value→H} {w:World} {base:Nat} {sp:Nat→Bool} {held:Bool} {fuel:Nat} {cs:List Value} {x:DataW H × List MemPlace},
 DataW.trod enc P w base sp held fuel t cs=some x→(∀ n∈x.1.weights P t,n≤reachBytes)→∃ y:α,E.rel (hp w) y cs∧φ y
def VH {α:Type} (φ:α→Prop) (b:Nat) (xs:List α):Prop:=(∀ x∈xs,φ x)∧xs.length*b≤reachBytes
section
variable {H:Type} {enc:TypeId × Value→H} {P:Program} {w:World} {base:Nat} {sp:Nat→Bool} {held:Bool} {fuel:Nat} {cs:List Value} {x:DataW H × List MemPlace}
theorem ZG {α:Type} {E:FQ α} {φ:α→Prop} {t:TypeId} (h:Qa P E φ t):dG P E φ t:=fun hd _=>h hd
theorem zVA {n:Nat} (h:n*1≤reachBytes):n≤140737488355328:=by unfold reachBytes at h; omega
theorem Za {e:TypeId} {d:DataW H} {n:Nat}:∀ {l:List (DataW H)},d∈l→n∈d.weights P e→n∈DataW.weightsAll P e l
 | y::l,h,hn=>by
  simp only [DataW.weightsAll,List.mem_append]
  rcases List.mem_cons.1 h with h | h
  ·subst h; exact .inl hn
  ·exact .inr (Za h hn)
theorem Zb {t:TypeId} {d:DataW H} {n:Nat}:∀ {ts:List TypeId} {l:List (DataW H)} {i:Nat},ts[i]? =some t→l[i]? =some d→n∈d.weights P t→n∈DataW.weightsEach P ts l
 | t'::ts,y::l,0,h1,h2,hn=>by
  simp only [DataW.weightsEach,List.mem_append]
  simp only [List.getElem?_cons_zero,Option.some.injEq] at h1 h2
  subst h1; subst h2
  exact .inl hn
 | t'::ts,y::l,i+1,h1,h2,hn=>by
  simp only [DataW.weightsEach,List.mem_append]
  simp only [List.getElem?_cons_succ] at h1 h2
  exact .inr (Zb h1 h2 hn)
 | [],_,_,h1,_,_=>by simp at h1
 | _::_, [],_,_,h2,_=>by simp at h2
theorem dH {t:TypeId} {fs:Array Field} (ht:P.underlying t=some (.struct fs)) {xs:List (DataW H × List MemPlace)} (hw:∀ n∈(DataW.agg (xs.map (·.1))).weights P t,n≤reachBytes) {i:Nat} {f:Field} (hf:fs[i]? =some f) {y:DataW H × List MemPlace} (hy:xs[i]? =some y):∀ n∈y.1.weights P f.type,n≤reachBytes:=fun n hn=>hw n (by
 simp only [DataW.weights,ht]
 exact Zb (by rw [List.getElem?_map,Array.getElem?_toList,hf]; rfl) (by rw [List.getElem?_map,hy]; rfl) hn)
theorem zMx {t e:TypeId} {k:Nat} (ht:P.underlying t=some (.array k e)) {xs:List (DataW H × List MemPlace)} (hw:∀ n∈(DataW.agg (xs.map (·.1))).weights P t,n≤reachBytes) {i:Nat} {y:DataW H × List MemPlace} (hy:xs[i]? =some y):∀ n∈y.1.weights P e,n≤reachBytes:=fun n hn=>hw n (by
 simp only [DataW.weights,ht]
 exact Za (List.mem_map.2 ⟨y,List.mem_of_getElem? hy,O⟩) hn)
theorem oJ {n i off k:Nat} {t:TypeId} {sub:List Value} {xs:List (DataW H × List MemPlace)} (hf:DataW.trod enc P w base sp held n t ((cs.drop off).take (P.cellsOf t))=xs[i]?) (hi:i<xs.length) (hc:P.cellsOf t=k) (hcs:(cs.drop off).take k=sub):
  ∃ y,xs[i]? =some y∧DataW.trod enc P w base sp held n t sub=some y:=by
 rw [hc,hcs] at hf
 exact ⟨xs[i],List.getElem?_eq_getElem hi,by rw [hf,List.getElem?_eq_getElem hi]⟩
theorem zHW {α:Type} {E:FQ α} {φ:α→Prop} {t e:TypeId} {b:Nat} (ht:P.underlying t=some (.slice e)) (hC:P.cellsOf e=E.n) (hpos:0<E.n) (hb:P.bytesOf e=b) (hE:dG P E φ e):dG P (zT [.s E (fun x=>x)]) (VH φ b) t:=fun {H enc w base sp held fuel cs x} hf hw=>by
 rcases Deep.open_slice ht hf with ⟨h1,_⟩ | ⟨a,len,cap,m,n,D,Pl,hcs,hbb,hl,hm,hmm,hx,hi⟩
 ·subst h1
  exact ⟨[],⟨⟨none,0,O,by simp,by simp [maxLen],fun _=>O,(fun ad h=>by cases h)⟩,trivial⟩,(fun x h=>by cases h),by simp⟩
 ·subst hcs
  subst hx
  simp only [DataW.weights,ht,hb] at hw
  have hlm:len≤m:=by rw [hmm]; split <;> omega
  have Dl:=hw _ (List.mem_cons_self ..)
  have hel:∀ i,i<len→∀ n∈(D i).weights P e,n≤reachBytes:=fun i hi n hn=>hw n (List.mem_cons_of_mem _ (List.mem_append_left _ (Za (List.mem_map.2 ⟨i,List.mem_range.2 hi,O⟩) hn)))
  obtain ⟨xs,h1,hφ,h2⟩:=zHC (w:=w) (E:=E) (φ:=φ) (ad:=a) (n:=len) hpos (fun i hin=>by
   obtain ⟨cs',hc,ht'⟩:=hi i (by omega)
   obtain ⟨y,hy,hy2⟩:=hE ht' (hel i hin)
   obtain ⟨_,_,hat⟩:=World.cells?_some hc
   refine ⟨y,cs',hy,hy2,fun j hj=>?_⟩
   have:=hat j (by omega)
   rw [Deep.add_add,hC] at this
   exact this)
  subst h1
  refine ⟨xs,⟨⟨some a,cap,O,hl,hm,(fun h=>by cases h),fun ad had=>?_⟩,trivial⟩,hφ,?_⟩
  ·injection had with had
   subst had
   exact h2
  ·simp only [List.length_map,List.length_range] at Dl
   exact Nat.le_trans (Nat.mul_le_mul_right _ (Nat.le_add_right _ _)) Dl
theorem zOz {α:Type} {ls:List (LC α)} {φ:α→Prop} {t:TypeId} {v:Value} {d:DataW H} {ps:List MemPlace} (hE:dG P (zT ls) φ t) (h:DataW.Trod enc P w base sp held t v d ps) (hw:∀ n∈d.weights P t,n≤reachBytes):
  ∃ (y:α) (ex:KH ls),v.cells.toList=tM y ls ex∧φ y∧∀ r,As.ro r∈wX y ls ex→r.p (hp w):=by
 obtain ⟨fuel,hf⟩:=h
 obtain ⟨y,h1,h2⟩:=hE hf hw
 obtain ⟨ex,h3,h4⟩:=XV h1
 exact ⟨y,ex,h3,h2,h4⟩
end
def tt:TT:= [
 (2,⟨(.int .i64),1,8,(.int .i64 0),false⟩),
 (3,⟨(.int .i64),1,8,(.int .i64 0),false⟩),
 (4,⟨.bool,1,1,(.bool false),false⟩),
 (5,⟨(.int .u8),1,1,(.int .u8 0),false⟩),
 (9,⟨.string,1,16,(.string ⟨#[]⟩),false⟩),
 (12,⟨(.int .u64),1,8,(.int .u64 0),false⟩),
 (13,⟨(.struct [(9,0,false),(12,1,false)]),2,24,(.agg #[(.string ⟨#[]⟩),(.int .u64 0)]),false⟩),
 (21,⟨(.int .i32),1,4,(.int .i32 0),false⟩),
 (22,⟨(.slice 5),1,24,(.slice none 0 0),false⟩),
 (23,⟨(.slice 4),1,24,(.slice none 0 0),false⟩),
 (25,⟨(.pointer 127),1,8,(.pointer none),false⟩),
 (27,⟨(.slice 64),1,24,(.slice none 0 0),false⟩),
 (29,⟨(.slice 123),1,24,(.slice none 0 0),false⟩),
 (31,⟨(.pointer 131),1,8,(.pointer none),false⟩),
 (32,⟨(.int .i64),1,8,(.int .i64 0),false⟩),
 (35,⟨(.pointer 135),1,8,(.pointer none),false⟩),
 (38,⟨(.pointer 144),1,8,(.pointer none),false⟩),
 (44,⟨(.slice 58),1,24,(.slice none 0 0),false⟩),
 (45,⟨(.struct [(44,0,false),(29,1,false)]),2,48,(.agg #[(.slice none 0 0),(.slice none 0 0)]),true⟩),
 (46,⟨(.struct [(44,0,false),(29,1,false)]),2,48,(.agg #[(.slice none 0 0),(.slice none 0 0)]),true⟩),
 (55,⟨(.struct [(3,0,false),(3,1,false),(3,2,false)]),3,24,(.agg #[(.int .i64 0),(.int .i64 0),(.int .i64 0)]),true⟩),
 (56,⟨(.struct [(3,0,false),(3,1,false),(3,2,false)]),3,24,(.agg #[(.int .i64 0),(.int .i64 0),(.int .i64 0)]),true⟩),
 (57,⟨(.struct [(9,0,false),(56,1,false),(22,4,false)]),5,64,(.agg #[(.string ⟨#[]⟩),(.int .i64 0),(.int .i64 0),(.int .i64 0),(.slice none 0 0)]),true⟩),
 (58,⟨(.struct [(9,0,false),(56,1,false),(22,4,false)]),5,64,(.agg #[(.string ⟨#[]⟩),(.int .i64 0),(.int .i64 0),(.int .i64 0),(.slice none 0 0)]),true⟩),
 (59,⟨(.int .u32),1,4,(.int .u32 0),false⟩),
 (60,⟨(.struct [(58,0,false),(59,5,false)]),6,72,(.agg #[(.string ⟨#[]⟩),(.int .i64 0),(.int .i64 0),(.int .i64 0),(.slice none 0 0),(.int .u32 0)]),true⟩),
 (61,⟨(.struct [(58,0,false),(59,5,false)]),6,72,(.agg #[(.string ⟨#[]⟩),(.int .i64 0),(.int .i64 0),(.int .i64 0),(.slice none 0 0),(.int .u32 0)]),true⟩),
 (62,⟨(.array 2 61),12,144,(.agg #[(.string ⟨#[]⟩),(.int .i64 0),(.int .i64 0),(.int .i64 0),(.slice none 0 0),(.int .u32 0),(.string ⟨#[]⟩),(.int .i64 0),(.int .i64 0),(.int .i64 0),(.slice none 0 0),(.int .u32 0)]),false⟩),
 (63,⟨(.struct [(9,0,false),(62,1,false),(3,13,false),(3,14,false),(4,15,false)]),16,184,(.agg #[(.string ⟨#[]⟩),(.string ⟨#[]⟩),(.int .i64 0),(.int .i64 0),(.int .i64 0),(.slice none 0 0),(.int .u32 0),(.string ⟨#[]⟩),(.int .i64 0),(.int .i64 0),(.int .i64 0),(.slice none 0 0),(.int .u32 0),(.int .i64 0),(.int .i64 0),(.bool false)]),true⟩),
 (64,⟨(.struct [(9,0,false),(62,1,false),(3,13,false),(3,14,false),(4,15,false)]),16,184,(.agg #[(.string ⟨#[]⟩),(.string ⟨#[]⟩),(.int .i64 0),(.int .i64 0),(.int .i64 0),(.slice none 0 0),(.int .u32 0),(.string ⟨#[]⟩),(.int .i64 0),(.int .i64 0),(.int .i64 0),(.slice none 0 0),(.int .u32 0),(.int .i64 0),(.int .i64 0),(.bool false)]),true⟩),
 (79,⟨(.slice 85),1,24,(.slice none 0 0),false⟩),
 (82,⟨(.struct [(79,0,false),(79,1,false),(29,2,false)]),3,72,(.agg #[(.slice none 0 0),(.slice none 0 0),(.slice none 0 0)]),true⟩),
 (83,⟨(.struct [(79,0,false),(79,1,false),(29,2,false)]),3,72,(.agg #[(.slice none 0 0),(.slice none 0 0),(.slice none 0 0)]),true⟩),
 (84,⟨(.struct [(9,0,false),(56,1,false)]),4,40,(.agg #[(.string ⟨#[]⟩),(.int .i64 0),(.int .i64 0),(.int .i64 0)]),true⟩),
 (85,⟨(.struct [(9,0,false),(56,1,false)]),4,40,(.agg #[(.string ⟨#[]⟩),(.int .i64 0),(.int .i64 0),(.int .i64 0)]),true⟩),
 (86,⟨(.slice 3),1,24,(.slice none 0 0),false⟩),
 (89,⟨(.slice 9),1,24,(.slice none 0 0),false⟩),
 (91,⟨(.slice 22),1,24,(.slice none 0 0),false⟩),
 (92,⟨(.slice 27),1,24,(.slice none 0 0),false⟩),
 (93,⟨(.pointer 97),1,8,(.pointer none),false⟩),
 (94,⟨(.pointer 187),1,8,(.pointer none),false⟩),
 (95,⟨(.pointer 247),1,8,(.pointer none),false⟩),
 (96,⟨(.struct [(31,0,false),(94,1,false),(38,2,false),(95,3,false),(29,4,false)]),5,56,(.agg #[(.pointer none),(.pointer none),(.pointer none),(.pointer none),(.slice none 0 0)]),true⟩),
 (97,⟨(.struct [(31,0,false),(94,1,false),(38,2,false),(95,3,false),(29,4,false)]),5,56,(.agg #[(.pointer none),(.pointer none),(.pointer none),(.pointer none),(.slice none 0 0)]),true⟩),
 (101,⟨(.pointer 189),1,8,(.pointer none),false⟩),
 (106,⟨(.struct [(5,0,false),(22,1,false),(4,2,false)]),3,40,(.agg #[(.int .u8 0),(.slice none 0 0),(.bool false)]),true⟩),
 (107,⟨(.struct [(5,0,false),(22,1,false),(4,2,false)]),3,40,(.agg #[(.int .u8 0),(.slice none 0 0),(.bool false)]),true⟩),
 (108,⟨(.slice 107),1,24,(.slice none 0 0),false⟩),
 (113,⟨(.struct [(3,0,false),(3,1,false),(23,2,false),(22,3,false)]),4,64,(.agg #[(.int .i64 0),(.int .i64 0),(.slice none 0 0),(.slice none 0 0)]),true⟩),
 (114,⟨(.struct [(3,0,false),(3,1,false),(23,2,false),(22,3,false)]),4,64,(.agg #[(.int .i64 0),(.int .i64 0),(.slice none 0 0),(.slice none 0 0)]),true⟩),
 (122,⟨(.struct [(9,0,false),(56,1,false),(9,4,false),(56,5,false)]),8,80,(.agg #[(.string ⟨#[]⟩),(.int .i64 0),(.int .i64 0),(.int .i64 0),(.string ⟨#[]⟩),(.int .i64 0),(.int .i64 0),(.int .i64 0)]),true⟩),
 (123,⟨(.struct [(9,0,false),(56,1,false),(9,4,false),(56,5,false)]),8,80,(.agg #[(.string ⟨#[]⟩),(.int .i64 0),(.int .i64 0),(.int .i64 0),(.string ⟨#[]⟩),(.int .i64 0),(.int .i64 0),(.int .i64 0)]),true⟩),
 (126,⟨(.struct [(22,0,false),(3,1,false)]),2,32,(.agg #[(.slice none 0 0),(.int .i64 0)]),true⟩),
 (127,⟨(.struct [(22,0,false),(3,1,false)]),2,32,(.agg #[(.slice none 0 0),(.int .i64 0)]),true⟩),
 (130,⟨(.struct [(3,0,false),(22,1,false),(86,2,false),(3,3,false),(3,4,false),(5,5,false),(4,6,false)]),7,80,(.agg #[(.int .i64 0),(.slice none 0 0),(.slice none 0 0),(.int .i64 0),(.int .i64 0),(.int .u8 0),(.bool false)]),true⟩),
 (131,⟨(.struct [(3,0,false),(22,1,false),(86,2,false),(3,3,false),(3,4,false),(5,5,false),(4,6,false)]),7,80,(.agg #[(.int .i64 0),(.slice none 0 0),(.slice none 0 0),(.int .i64 0),(.int .i64 0),(.int .u8 0),(.bool false)]),true⟩),
 (132,⟨(.map 5 22),1,8,(.map none),false⟩),
 (133,⟨(.map 5 22),1,8,(.map none),false⟩),
 (134,⟨(.struct [(31,0,false),(3,1,false),(3,2,false),(3,3,false),(133,4,false),(3,5,false),(4,6,false),(4,7,false)]),8,56,(.agg #[(.pointer none),(.int .i64 0),(.int .i64 0),(.int .i64 0),(.map none),(.int .i64 0),(.bool false),(.bool false)]),true⟩),
 (135,⟨(.struct [(31,0,false),(3,1,false),(3,2,false),(3,3,false),(133,4,false),(3,5,false),(4,6,false),(4,7,false)]),8,56,(.agg #[(.pointer none),(.int .i64 0),(.int .i64 0),(.int .i64 0),(.map none),(.int .i64 0),(.bool false),(.bool false)]),true⟩),
 (137,⟨(.struct [(3,0,false),(133,1,false),(3,2,false),(4,3,false)]),4,32,(.agg #[(.int .i64 0),(.map none),(.int .i64 0),(.bool false)]),true⟩),
 (138,⟨(.struct [(3,0,false),(133,1,false),(3,2,false),(4,3,false)]),4,32,(.agg #[(.int .i64 0),(.map none),(.int .i64 0),(.bool false)]),true⟩),
 (143,⟨(.struct [(35,0,false),(27,1,false),(29,2,false),(3,3,false),(114,4,false),(5,8,false),(86,9,false)]),10,160,(.agg #[(.pointer none),(.slice none 0 0),(.slice none 0 0),(.int .i64 0),(.int .i64 0),(.int .i64 0),(.slice none 0 0),(.slice none 0 0),(.int .u8 0),(.slice none 0 0)]),true⟩),
 (144,⟨(.struct [(35,0,false),(27,1,false),(29,2,false),(3,3,false),(114,4,false),(5,8,false),(86,9,false)]),10,160,(.agg #[(.pointer none),(.slice none 0 0),(.slice none 0 0),(.int .i64 0),(.int .i64 0),(.int .i64 0),(.slice none 0 0),(.slice none 0 0),(.int .u8 0),(.slice none 0 0)]),true⟩),
 (147,⟨.other,1,8, .nilFunc,false⟩),
 (148,⟨(.map 3 147),1,8,(.map none),false⟩),
 (150,⟨(.pointer 152),1,8,(.pointer none),false⟩),
 (151,⟨(.struct [(22,0,false),(3,1,false),(4,2,false)]),3,40,(.agg #[(.slice none 0 0),(.int .i64 0),(.bool false)]),true⟩),
 (152,⟨(.struct [(22,0,false),(3,1,false),(4,2,false)]),3,40,(.agg #[(.slice none 0 0),(.int .i64 0),(.bool false)]),true⟩),
 (169,⟨(.pointer 61),1,8,(.pointer none),false⟩),
 (171,⟨(.pointer 64),1,8,(.pointer none),false⟩),
 (173,⟨(.int .u64),1,8,(.int .u64 0),false⟩),
 (181,⟨(.map 3 4),1,8,(.map none),false⟩),
 (182,⟨.other,1,8, .nilFunc,false⟩),
 (186,⟨(.struct [(3,0,false),(22,1,false),(86,2,false),(3,3,false),(3,4,false),(5,5,false),(4,6,false)]),7,80,(.agg #[(.int .i64 0),(.slice none 0 0),(.slice none 0 0),(.int .i64 0),(.int .i64 0),(.int .u8 0),(.bool false)]),true⟩),
 (187,⟨(.struct [(3,0,false),(22,1,false),(86,2,false),(3,3,false),(3,4,false),(5,5,false),(4,6,false)]),7,80,(.agg #[(.int .i64 0),(.slice none 0 0),(.slice none 0 0),(.int .i64 0),(.int .i64 0),(.int .u8 0),(.bool false)]),true⟩),
 (188,⟨(.struct [(94,0,false),(3,1,false),(3,2,false),(3,3,false),(108,4,false),(3,5,false),(4,6,false)]),7,72,(.agg #[(.pointer none),(.int .i64 0),(.int .i64 0),(.int .i64 0),(.slice none 0 0),(.int .i64 0),(.bool false)]),true⟩),
 (189,⟨(.struct [(94,0,false),(3,1,false),(3,2,false),(3,3,false),(108,4,false),(3,5,false),(4,6,false)]),7,72,(.agg #[(.pointer none),(.int .i64 0),(.int .i64 0),(.int .i64 0),(.slice none 0 0),(.int .i64 0),(.bool false)]),true⟩),
 (198,⟨(.int .u64),1,8,(.int .u64 0),false⟩),
 (246,⟨(.struct [(101,0,false),(27,1,false),(29,2,false),(3,3,false),(114,4,false),(3,8,false),(86,9,false)]),10,160,(.agg #[(.pointer none),(.slice none 0 0),(.slice none 0 0),(.int .i64 0),(.int .i64 0),(.int .i64 0),(.slice none 0 0),(.slice none 0 0),(.int .i64 0),(.slice none 0 0)]),true⟩),
 (247,⟨(.struct [(101,0,false),(27,1,false),(29,2,false),(3,3,false),(114,4,false),(3,8,false),(86,9,false)]),10,160,(.agg #[(.pointer none),(.slice none 0 0),(.slice none 0 0),(.int .i64 0),(.int .i64 0),(.int .i64 0),(.slice none 0 0),(.slice none 0 0),(.int .i64 0),(.slice none 0 0)]),true⟩),
 (263,⟨(.array 3 3),3,24,(.agg #[(.int .i64 0),(.int .i64 0),(.int .i64 0)]),false⟩),
 (268,⟨(.map 5 4),1,8,(.map none),false⟩),
 (270,⟨(.struct [(22,0,false),(3,1,false),(4,2,false)]),3,40,(.agg #[(.slice none 0 0),(.int .i64 0),(.bool false)]),true⟩),
 (271,⟨(.struct [(22,0,false),(3,1,false),(4,2,false)]),3,40,(.agg #[(.slice none 0 0),(.int .i64 0),(.bool false)]),true⟩),
 (272,⟨(.slice 59),1,24,(.slice none 0 0),false⟩),
 (282,⟨(.pointer 271),1,8,(.pointer none),false⟩),
 (289,⟨(.int .i64),1,8,(.int .i64 0),false⟩),
 (299,⟨(.int .u64),1,8,(.int .u64 0),false⟩),
 (303,⟨(.pointer 3),1,8,(.pointer none),false⟩),
 (305,⟨(.pointer 299),1,8,(.pointer none),false⟩),
 (316,⟨(.pointer 5),1,8,(.pointer none),false⟩)]
set_option maxRecDepth 100000 in
theorem zVF:lD Tryz.prog tt:=⟨
 ⟨by kernel_rfl,by kernel_rfl,fun h=>Bool.noConfusion h⟩,
 ⟨by kernel_rfl,by kernel_rfl,fun h=>Bool.noConfusion h⟩,
 ⟨by kernel_rfl,by kernel_rfl,fun h=>Bool.noConfusion h⟩,
 ⟨by kernel_rfl,by kernel_rfl,fun h=>Bool.noConfusion h⟩,
 ⟨by kernel_rfl,by kernel_rfl,fun h=>Bool.noConfusion h⟩,
 ⟨by kernel_rfl,by kernel_rfl,fun h=>Bool.noConfusion h⟩,
 ⟨by kernel_rfl,by kernel_rfl,fun h=>Bool.noConfusion h⟩,
 ⟨by kernel_rfl,by kernel_rfl,fun h=>Bool.noConfusion h⟩,
 ⟨by kernel_rfl,by kernel_rfl,fun h=>Bool.noConfusion h⟩,
 ⟨by kernel_rfl,by kernel_rfl,fun h=>Bool.noConfusion h⟩,
 ⟨by kernel_rfl,by kernel_rfl,fun h=>Bool.noConfusion h⟩,
 ⟨by kernel_rfl,by kernel_rfl,fun h=>Bool.noConfusion h⟩,
 ⟨by kernel_rfl,by kernel_rfl,fun h=>Bool.noConfusion h⟩,
 ⟨by kernel_rfl,by kernel_rfl,fun h=>Bool.noConfusion h⟩,
 ⟨by kernel_rfl,by kernel_rfl,fun h=>Bool.noConfusion h⟩,
 ⟨by kernel_rfl,by kernel_rfl,fun h=>Bool.noConfusion h⟩,
 ⟨by kernel_rfl,by kernel_rfl,fun h=>Bool.noConfusion h⟩,
 ⟨by kernel_rfl,by kernel_rfl,fun h=>Bool.noConfusion h⟩,
 ⟨by kernel_rfl,by kernel_rfl,fun _=>⟨by kernel_rfl,by kernel_rfl⟩⟩,
 ⟨by kernel_rfl,by kernel_rfl,fun _=>⟨by kernel_rfl,by kernel_rfl⟩⟩,
 ⟨by kernel_rfl,by kernel_rfl,fun _=>⟨by kernel_rfl,by kernel_rfl⟩⟩,
 ⟨by kernel_rfl,by kernel_rfl,fun _=>⟨by kernel_rfl,by kernel_rfl⟩⟩,
 ⟨by kernel_rfl,by kernel_rfl,fun _=>⟨by kernel_rfl,by kernel_rfl⟩⟩,
 ⟨by kernel_rfl,by kernel_rfl,fun _=>⟨by kernel_rfl,by kernel_rfl⟩⟩,
 ⟨by kernel_rfl,by kernel_rfl,fun h=>Bool.noConfusion h⟩,
 ⟨by kernel_rfl,by kernel_rfl,fun _=>⟨by kernel_rfl,by kernel_rfl⟩⟩,
 ⟨by kernel_rfl,by kernel_rfl,fun _=>⟨by kernel_rfl,by kernel_rfl⟩⟩,
 ⟨by kernel_rfl,by kernel_rfl,fun h=>Bool.noConfusion h⟩,
 ⟨by kernel_rfl,by kernel_rfl,fun _=>⟨by kernel_rfl,by kernel_rfl⟩⟩,
 ⟨by kernel_rfl,by kernel_rfl,fun _=>⟨by kernel_rfl,by kernel_rfl⟩⟩,
 ⟨by kernel_rfl,by kernel_rfl,fun h=>Bool.noConfusion h⟩,
 ⟨by kernel_rfl,by kernel_rfl,fun _=>⟨by kernel_rfl,by kernel_rfl⟩⟩,
 ⟨by kernel_rfl,by kernel_rfl,fun _=>⟨by kernel_rfl,by kernel_rfl⟩⟩,
 ⟨by kernel_rfl,by kernel_rfl,fun _=>⟨by kernel_rfl,by kernel_rfl⟩⟩,
 ⟨by kernel_rfl,by kernel_rfl,fun _=>⟨by kernel_rfl,by kernel_rfl⟩⟩,
 ⟨by kernel_rfl,by kernel_rfl,fun h=>Bool.noConfusion h⟩,
 ⟨by kernel_rfl,by kernel_rfl,fun h=>Bool.noConfusion h⟩,
 ⟨by kernel_rfl,by kernel_rfl,fun h=>Bool.noConfusion h⟩,
 ⟨by kernel_rfl,by kernel_rfl,fun h=>Bool.noConfusion h⟩,
 ⟨by kernel_rfl,by kernel_rfl,fun h=>Bool.noConfusion h⟩,
 ⟨by kernel_rfl,by kernel_rfl,fun h=>Bool.noConfusion h⟩,
 ⟨by kernel_rfl,by kernel_rfl,fun h=>Bool.noConfusion h⟩,
 ⟨by kernel_rfl,by kernel_rfl,fun _=>⟨by kernel_rfl,by kernel_rfl⟩⟩,
 ⟨by kernel_rfl,by kernel_rfl,fun _=>⟨by kernel_rfl,by kernel_rfl⟩⟩,
 ⟨by kernel_rfl,by kernel_rfl,fun h=>Bool.noConfusion h⟩,
 ⟨by kernel_rfl,by kernel_rfl,fun _=>⟨by kernel_rfl,by kernel_rfl⟩⟩,
 ⟨by kernel_rfl,by kernel_rfl,fun _=>⟨by kernel_rfl,by kernel_rfl⟩⟩,
 ⟨by kernel_rfl,by kernel_rfl,fun h=>Bool.noConfusion h⟩,
 ⟨by kernel_rfl,by kernel_rfl,fun _=>⟨by kernel_rfl,by kernel_rfl⟩⟩,
 ⟨by kernel_rfl,by kernel_rfl,fun _=>⟨by kernel_rfl,by kernel_rfl⟩⟩,
 ⟨by kernel_rfl,by kernel_rfl,fun _=>⟨by kernel_rfl,by kernel_rfl⟩⟩,
 ⟨by kernel_rfl,by kernel_rfl,fun _=>⟨by kernel_rfl,by kernel_rfl⟩⟩,
 ⟨by kernel_rfl,by kernel_rfl,fun _=>⟨by kernel_rfl,by kernel_rfl⟩⟩,
 ⟨by kernel_rfl,by kernel_rfl,fun _=>⟨by kernel_rfl,by kernel_rfl⟩⟩,
 ⟨by kernel_rfl,by kernel_rfl,fun _=>⟨by kernel_rfl,by kernel_rfl⟩⟩,
 ⟨by kernel_rfl,by kernel_rfl,fun _=>⟨by kernel_rfl,by kernel_rfl⟩⟩,
 ⟨by kernel_rfl,by kernel_rfl,fun h=>Bool.noConfusion h⟩,
 ⟨by kernel_rfl,by kernel_rfl,fun h=>Bool.noConfusion h⟩,
 ⟨by kernel_rfl,by kernel_rfl,fun _=>⟨by kernel_rfl,by kernel_rfl⟩⟩,
 ⟨by kernel_rfl,by kernel_rfl,fun _=>⟨by kernel_rfl,by kernel_rfl⟩⟩,
 ⟨by kernel_rfl,by kernel_rfl,fun _=>⟨by kernel_rfl,by kernel_rfl⟩⟩,
 ⟨by kernel_rfl,by kernel_rfl,fun _=>⟨by kernel_rfl,by kernel_rfl⟩⟩,
 ⟨by kernel_rfl,by kernel_rfl,fun _=>⟨by kernel_rfl,by kernel_rfl⟩⟩,
 ⟨by kernel_rfl,by kernel_rfl,fun _=>⟨by kernel_rfl,by kernel_rfl⟩⟩,
 ⟨by kernel_rfl,by kernel_rfl,fun h=>Bool.noConfusion h⟩,
 ⟨by kernel_rfl,by kernel_rfl,fun h=>Bool.noConfusion h⟩,
 ⟨by kernel_rfl,by kernel_rfl,fun h=>Bool.noConfusion h⟩,
 ⟨by kernel_rfl,by kernel_rfl,fun _=>⟨by kernel_rfl,by kernel_rfl⟩⟩,
 ⟨by kernel_rfl,by kernel_rfl,fun _=>⟨by kernel_rfl,by kernel_rfl⟩⟩,
 ⟨by kernel_rfl,by kernel_rfl,fun h=>Bool.noConfusion h⟩,
 ⟨by kernel_rfl,by kernel_rfl,fun h=>Bool.noConfusion h⟩,
 ⟨by kernel_rfl,by kernel_rfl,fun h=>Bool.noConfusion h⟩,
 ⟨by kernel_rfl,by kernel_rfl,fun h=>Bool.noConfusion h⟩,
 ⟨by kernel_rfl,by kernel_rfl,fun h=>Bool.noConfusion h⟩,
 ⟨by kernel_rfl,by kernel_rfl,fun _=>⟨by kernel_rfl,by kernel_rfl⟩⟩,
 ⟨by kernel_rfl,by kernel_rfl,fun _=>⟨by kernel_rfl,by kernel_rfl⟩⟩,
 ⟨by kernel_rfl,by kernel_rfl,fun _=>⟨by kernel_rfl,by kernel_rfl⟩⟩,
 ⟨by kernel_rfl,by kernel_rfl,fun _=>⟨by kernel_rfl,by kernel_rfl⟩⟩,
 ⟨by kernel_rfl,by kernel_rfl,fun h=>Bool.noConfusion h⟩,
 ⟨by kernel_rfl,by kernel_rfl,fun _=>⟨by kernel_rfl,by kernel_rfl⟩⟩,
 ⟨by kernel_rfl,by kernel_rfl,fun _=>⟨by kernel_rfl,by kernel_rfl⟩⟩,
 ⟨by kernel_rfl,by kernel_rfl,fun h=>Bool.noConfusion h⟩,
 ⟨by kernel_rfl,by kernel_rfl,fun h=>Bool.noConfusion h⟩,
 ⟨by kernel_rfl,by kernel_rfl,fun _=>⟨by kernel_rfl,by kernel_rfl⟩⟩,
 ⟨by kernel_rfl,by kernel_rfl,fun _=>⟨by kernel_rfl,by kernel_rfl⟩⟩,
 ⟨by kernel_rfl,by kernel_rfl,fun h=>Bool.noConfusion h⟩,
 ⟨by kernel_rfl,by kernel_rfl,fun h=>Bool.noConfusion h⟩,
 ⟨by kernel_rfl,by kernel_rfl,fun h=>Bool.noConfusion h⟩,
 ⟨by kernel_rfl,by kernel_rfl,fun h=>Bool.noConfusion h⟩,
 ⟨by kernel_rfl,by kernel_rfl,fun h=>Bool.noConfusion h⟩,
 ⟨by kernel_rfl,by kernel_rfl,fun h=>Bool.noConfusion h⟩,
 ⟨by kernel_rfl,by kernel_rfl,fun h=>Bool.noConfusion h⟩,trivial⟩
instance:FP Tryz.prog:=⟨tt,zVF⟩
theorem mixed:Tryz.prog.follows .mixedOrders=true:=by kernel_rfl
def Dn {β:Type}:Nat→List As→(As→List As→Option β)→Option β
 | _, [],_=>none
 | 0,x::F,k=>k x F
 | i+1,y::F,k=>Dn i F fun x G=>k x (y::G)
theorem Zc {β:Type} {r:β}:∀ {i:Nat} {F:List As} {k:As→List As→Option β},Dn i F k=some r→∃ x G,Del F x G∧k x G=some r
 | _, [],_,h=>by cases ‹Nat› <;> cases h
 | 0,x::F,k,h=>⟨x,F, .z,h⟩
 | i+1,y::F,k,h=>by
  obtain ⟨x,G,h1,h2⟩:=Zc (i:=i) h
  exact ⟨x,y::G, .s h1,h2⟩
def Dp {β:Type}:Nat→List As→(List As→Option β)→Option β
 | 0,F,k=>k F
 | _+1, [],_=>none
 | n+1,_::F,k=>Dp n F k
theorem Zd {β:Type} {r:β} {k:List As→Option β}:∀ {n:Nat} {F:List As},Dp n F k=some r→∃ D H,F=D++H∧k H=some r
 | 0,F,h=>⟨[],F,O,h⟩
 | _+1, [],h=>by cases h
 | n+1,x::F,h=>by
  obtain ⟨D,H,h1,h2⟩:=Zd (n:=n) (F:=F) h
  exact ⟨x::D,H,by rw [h1]; rfl,h2⟩
def TK {β:Type}:List Nat→Nat→List As→(List As→Option β)→Option β
 | [],d,F,k=>Dp d F k
 | i::is,d,F,k=>Dn i F fun x G=>TK is d G fun t=>k (x::t)
theorem Qe {β:Type} {r:β}:∀ {is:List Nat} {d:Nat} {F:List As} {k:List As→Option β},TK is d F k=some r→∃ H D,k H=some r∧F.Perm (H++D)
 | [],d,F,k,h=>by
  obtain ⟨D,H,h1,h2⟩:=Zd h
  exact ⟨H,D,h2,h1▸List.perm_append_comm⟩
 | i::is,d,F,k,h=>by
  obtain ⟨x,G,h1,h2⟩:=Zc h
  obtain ⟨H,D,h3,h4⟩:=Qe (is:=is) h2
  exact ⟨x::H,D,h3,h1.perm.trans (h4.cons x)⟩
theorem Sat.part {H D F:List As} {w:World} (h:Sat F w) (hp:F.Perm (H++D)):Sat H w:=by
 have h1:=h.perm hp
 have hn:=h1.nodup
 rw [sK] at hn
 exact h1.JP (List.nodup_append.1 hn).1 fun x hx=>List.mem_append_left _ hx
theorem Sat.sl {F F':List As} {w:World} (h:Sat F w) (is:List Nat) (d:Nat) (e:TK is d F some=some F'):Sat F' w:=by
 obtain ⟨H,D,h1,hp⟩:=Qe e
 cases h1
 exact h.part hp
theorem zl {F F':List As} (is:List Nat) (d:Nat) (e:TK is d F some=some F'):∀ w,Sat F w→Sat F' w:=fun _ h=>h.sl is d e
def TU {β:Type}:Nat→List As→(As→Option β)→Option β
 | _, [],_=>none
 | 0,x::_,k=>k x
 | i+1,_::F,k=>TU i F k
theorem Qg {β:Type} {r:β} {k:As→Option β}:∀ {i:Nat} {F:List As},TU i F k=some r→∃ x,x∈F∧k x=some r
 | _, [],h=>by cases ‹Nat› <;> cases h
 | 0,x::_,h=>⟨x,List.mem_cons_self ..,h⟩
 | i+1,_::F,h=>by
  obtain ⟨x,h1,h2⟩:=Qg (i:=i) (F:=F) h
  exact ⟨x,List.mem_cons_of_mem _ h1,h2⟩
theorem zm {F:List As} {x:As} (i:Nat) (e:TU i F some=some x):x∈F:=by
 obtain ⟨y,h1,h2⟩:=Qg e
 cases h2
 exact h1
def XZ {β:Type}:List Nat→List As→(List As→Option β)→Option β
 | [],F,k=>k F
 | i::is,F,k=>TU i F fun x=>match x with
  | .ro r=>XZ is F fun t=>k (.ro r::t)
  | .res _=>none
theorem Ze {β:Type} {r:β}:∀ {is:List Nat} {F:List As} {k:List As→Option β},XZ is F k=some r→∃ G,oS G=true∧(∀ x∈G,x∈F)∧k (G++F)=some r
 | [],F,k,h=>⟨[],O,by simp,h⟩
 | i::is,F,k,h=>by
  obtain ⟨x,h1,h2⟩:=Qg h
  cases x with
  | res _=>cases h2
  | ro q=>
   obtain ⟨G,h3,h4,h5⟩:=Ze (is:=is) h2
   exact ⟨.ro q::G,h3,fun y hy=>by
    rcases List.mem_cons.1 hy with rfl | hy
    ·exact h1
    ·exact h4 y hy,h5⟩
theorem Sat.sd {F F':List As} {w:World} (h:Sat F w) (js is:List Nat) (d:Nat) (e:TK is d F (fun H=>XZ js H some)=some F'):Sat F' w:=by
 obtain ⟨H,D,h1,hp⟩:=Qe e
 obtain ⟨G,h2,h3,h4⟩:=Ze h1
 cases h4
 have hH:=h.part hp
 have hG:=mK h2
 refine hH.JP ?_ fun x hx=>?_
 ·rw [sK,nQ (F:=G) fun x hx=>by obtain ⟨r,rfl⟩:=hG x hx; rfl]
  simpa using hH.nodup
 ·rcases List.mem_append.1 hx with hx | hx
  ·exact h3 x hx
  ·exact hx
theorem zd {F F':List As} (js is:List Nat) (d:Nat) (e:TK is d F (fun H=>XZ js H some)=some F'):∀ w,Sat F w→Sat F' w:=fun _ h=>h.sd js is d e
def Qh {β:Type}:List Nat→List As→(List As→Option β)→Option β
 | [],_,k=>k []
 | i::is,F,k=>TU i F fun x=>Qh is F fun t=>k (x::t)
theorem zRn {F:List As} {G:List As} {k:List As→Option (List As)}:∀ {is:List Nat},Qh is F k=some G→∃ H,k H=some G∧∀ x∈H,x∈F:=by
 intro is
 induction is generalizing k with
 | nil=>exact fun h=>⟨[],h,by simp⟩
 | cons i is ih=>
  intro h
  obtain ⟨x,h1,h2⟩:=Qg h
  obtain ⟨H,h3,h4⟩:=ih h2
  exact ⟨x::H,h3,fun y hy=>by
   rcases List.mem_cons.1 hy with rfl | hy
   ·exact h1
   ·exact h4 y hy⟩
theorem nU.of {F:List As}:∀ {G:List As},(∀ x∈G,x∈F)→nU G F
 | [],_=>trivial
 | x::G,h=>⟨h x (List.mem_cons_self ..),nU.of fun y hy=>h y (List.mem_cons_of_mem _ hy)⟩
theorem za {F G:List As} (is:List Nat) (e:Qh is F some=some G):nU G F:=by
 obtain ⟨H,h1,h2⟩:=zRn e
 cases h1
 exact nU.of h2
theorem zi {F G:List As} {x:As} (i:Nat) (e:Dn i F (fun x G=>some (x,G))=some (x,G)):Del F x G:=by
 obtain ⟨y,H,h1,h2⟩:=Zc e
 cases h2
 exact h1
def wz {β:Type}:Nat→List As→(List As→Option β)→Option β
 | 0,F,k=>k F
 | _+1, [],_=>none
 | n+1,x::F,k=>wz n F fun t=>k (x::t)
theorem zIe {β:Type} {r:β}:∀ {n:Nat} {F:List As} {k:List As→Option β},wz n F k=some r→k F=some r
 | 0,_,_,h=>h
 | _+1, [],_,h=>by cases h
 | n+1,x::F,k,h=>zIe (n:=n) (F:=F) h
def eS {β:Type}:List Nat→Env→(Env→Option β)→Option β
 | [],_,k=>k []
 | i::is,Γ,k=>match get Γ i with
  | some v=>eS is Γ fun t=>k ((i,v)::t)
  | none=>none
theorem fY {β:Type} {r:β} {Γ:Env}:∀ {is:List Nat} {k:Env→Option β},eS is Γ k=some r→∃ H,k H=some r∧QU H Γ
 | [],k,h=>⟨[],h,trivial⟩
 | i::is,k,h=>by
  unfold eS at h
  cases hv:get Γ i with
  | none=>rw [hv] at h; cases h
  | some v=>
   rw [hv] at h
   obtain ⟨H,h1,h2⟩:=fY (is:=is) h
   exact ⟨(i,v)::H,h1,hv,h2⟩
theorem zb {Γ Γ':Env} (e:eS (Γ'.map Prod.fst) Γ some=some Γ'):QU Γ' Γ:=by
 obtain ⟨H,h1,h2⟩:=fY e
 cases h1
 exact h2
def Qi {β:Type} (tt:TT) (ops:Array Oper) (nt:Nat) (o:Oper) (Γ:Env) (k:Env→Option β):Option β:=
 match o.dst with
 | none=>none
 | some d=>bif Nat.blt d nt then (match o.guard with
  | none=>(match OB tt Γ o.op with
   | some v=>k ((d,v)::Γ)
   | none=>none)
  | some (j,b)=>match WI ops j with
   | none=>none
   | some dj=>match get Γ dj with
    | none=>none
    | some v=>bif dQ v b then k ((d,undef)::Γ) else (match OB tt Γ o.op with
     | some u=>k ((d,u)::Γ)
     | none=>none)) else none
section
variable {P:Program} [T:FP P] {w0:World} {nt:Nat} {Γ Γ':Env} {F F' G R:List As} {Q:Exit→Act→World→Prop} {ops:Array Oper} {rest:List Oper}
variable {d:Nat} {op:Op} {ty:Nat} {pos:String} {af:Array Edge} {X:List Oper→Act→World→Prop} {Y:Act→World→Prop} {Post:Value→List As→Prop} {C:World→Prop}
theorem zGf [W:Walk P ops X] {β:Type} {r:β} {o:Oper} {k:Env→Option β} (h:Qi T.tt ops nt o Γ k=some r):∃ Γ',k Γ'=some r∧(St w0 nt Γ' F (X rest)→St w0 nt Γ F (X (o::rest))):=by
 obtain ⟨dst,op,ty,pos,af,g⟩:=o
 cases dst with
 | none=>cases h
 | some d=>
  unfold Qi at h
  simp only at h
  cases hd:Nat.blt d nt with
  | false=>rw [hd] at h; cases h
  | true=>
   rw [hd,cond_true] at h
   cases g with
   | none=>
    simp only at h
    cases hv:OB T.tt Γ op with
    | none=>rw [hv] at h; cases h
    | some v=>
     rw [hv] at h
     exact ⟨_,h,fun k=>.p hd hv k⟩
   | some jb=>
    obtain ⟨j,b⟩:=jb
    simp only at h
    cases hj:WI ops j with
    | none=>rw [hj] at h; cases h
    | some dj=>
     rw [hj] at h
     simp only at h
     cases hg:get Γ dj with
     | none=>rw [hg] at h; cases h
     | some v=>
      rw [hg] at h
      simp only at h
      cases hn:dQ v b with
      | true=>
       rw [hn,cond_true] at h
       exact ⟨_,h,fun k=>.RD hd hj hg hn k⟩
      | false=>
       rw [hn,cond_false] at h
       have hb:v= .bool b:=by
        cases v <;> simp [dQ] at hn
        rw [hn]
       cases hv:OB T.tt Γ op with
       | none=>rw [hv] at h; cases h
       | some u=>
        rw [hv] at h
        exact ⟨_,h,fun k=>.BN hj (hb▸hg) (.p hd hv k)⟩
def Qj {β:Type} (tt:TT) (ops:Array Oper) (nt:Nat):Nat→Env→List Oper→(Env→List Oper→Option β)→Option β
 | 0,Γ,l,k=>k Γ l
 | _+1,_, [],_=>none
 | n+1,Γ,o::l,k=>Qi tt ops nt o Γ fun Γ'=>Qj tt ops nt n Γ' l k
theorem zHt [W:Walk P ops X] {β:Type} {r:β} {k:Env→List Oper→Option β}:∀ {n:Nat} {Γ:Env} {l:List Oper},Qj T.tt ops nt n Γ l k=some r→∃ Γ' l',k Γ' l'=some r∧(St w0 nt Γ' F (X l')→St w0 nt Γ F (X l))
 | 0,Γ,l,h=>⟨Γ,l,h,id⟩
 | _+1,_, [],h=>by cases h
 | n+1,Γ,o::l,h=>by
  obtain ⟨Γ1,h1,h2⟩:=zGf (P:=P) (w0:=w0) (F:=F) (X:=X) (rest:=l) h
  obtain ⟨Γ2,l2,h3,h4⟩:=zHt (n:=n) h1
  exact ⟨Γ2,l2,h3,fun h=>h2 (h4 h)⟩
def WQ {β:Type} (tt:TT) (ops:Array Oper) (nt:Nat):Env→List Oper→(Env→Option β)→Option β
 | Γ, [],k=>k Γ
 | Γ,o::l,k=>Qi tt ops nt o Γ fun Γ'=>WQ tt ops nt Γ' l k
theorem cY [W:Walk P ops X] {β:Type} {r:β} {k:Env→Option β}:∀ {l:List Oper} {Γ:Env},WQ T.tt ops nt Γ l k=some r→∃ Γ',k Γ'=some r∧(St w0 nt Γ' F (X [])→St w0 nt Γ F (X l))
 | [],Γ,h=>⟨Γ,h,id⟩
 | o::l,Γ,h=>by
  obtain ⟨Γ1,h1,h2⟩:=zGf (P:=P) (w0:=w0) (F:=F) (X:=X) (rest:=l) h
  obtain ⟨Γ2,h3,h4⟩:=cY (l:=l) h1
  exact ⟨Γ2,h3,fun h=>h2 (h4 h)⟩
theorem St.n [W:Walk P ops X] (n:Nat) {l l':List Oper} (e:Qj T.tt ops nt n Γ l (fun Γ l=>some (Γ,l))=some (Γ',l')) (k:St w0 nt Γ' F (X l')):St w0 nt Γ F (X l):=by
 obtain ⟨Γ1,l1,h1,h2⟩:=zHt (P:=P) (w0:=w0) (F:=F) (X:=X) e
 cases h1
 exact h2 k
theorem St.a (n:Nat) {id:Nat} {l l':List Oper} {y:Code} (e:Qj T.tt l.toArray nt n Γ l (fun Γ l=>some (Γ,l))=some (Γ',l')) (k:St w0 nt Γ' F (wpList P l.toArray (Exit.then (y.wp P Q) Q) l')):
  St w0 nt Γ F ((Code.seq (Code.region id l.toArray false) y).wp P Q):=.seq (.region (.n n e k))
theorem St.b (is:List Nat) {l:List Oper} {Qn:Act→World→Prop} (e:WQ T.tt ops nt Γ l (fun Γ=>eS is Γ some)=some Γ') (k:St w0 nt Γ' F Qn):St w0 nt Γ F (wpList P ops (Exit.then Qn Q) l):=by
 obtain ⟨Γ1,h1,h2⟩:=cY (P:=P) (w0:=w0) (F:=F) (X:=wpList P ops (Exit.then Qn Q)) e
 obtain ⟨H,h3,h4⟩:=fY h1
 cases h3
 exact h2 (.done (.AO (.slots h4 k)))
theorem St.bf (is ks:List Nat) (d:Nat) {l:List Oper} {Qn:Act→World→Prop} (e:WQ T.tt ops nt Γ l (fun Γ=>eS is Γ some)=some Γ') (e':TK ks d F some=some F') (k:St w0 nt Γ' F' Qn):St w0 nt Γ F (wpList P ops (Exit.then Qn Q) l):=
 .b is e (.AY (zl ks d e') k)
theorem St.bq (is:List Nat) {l:List Oper} {Qn:Act→World→Prop} (e:WQ T.tt ops nt Γ l (fun Γ=>eS is Γ some)=some Γ') (k:St w0 nt Γ' F Qn):St w0 nt Γ F (XK P ops (Exit.then Qn Q) l):=by
 obtain ⟨Γ1,h1,h2⟩:=cY (P:=P) (w0:=w0) (F:=F) (X:=XK P ops (Exit.then Qn Q)) e
 obtain ⟨H,h3,h4⟩:=fY h1
 cases h3
 exact h2 (.YQ (.AO (.slots h4 k)))
theorem St.ab (is:List Nat) {id:Nat} {l:List Oper} {y:Code} (e:WQ T.tt l.toArray nt Γ l (fun Γ=>eS is Γ some)=some Γ') (k:St w0 nt Γ' F (y.wp P Q)):
  St w0 nt Γ F ((Code.seq (Code.region id l.toArray false) y).wp P Q):=.seq (.region (.b is e k))
theorem St.EK (is ks:List Nat) (d:Nat) {id:Nat} {l:List Oper} {y:Code} (e:WQ T.tt l.toArray nt Γ l (fun Γ=>eS is Γ some)=some Γ') (e':TK ks d F some=some F') (k:St w0 nt Γ' F' (y.wp P Q)):
  St w0 nt Γ F ((Code.seq (Code.region id l.toArray false) y).wp P Q):=.seq (.region (.bf is ks d e e' k))
theorem St.be {l:List Oper} {Qn:Act→World→Prop} (e:WQ T.tt ops nt Γ l some=some Γ') (k:St w0 nt Γ' F Qn):St w0 nt Γ F (wpList P ops (Exit.then Qn Q) l):=by
 obtain ⟨Γ1,h1,h2⟩:=cY (P:=P) (w0:=w0) (F:=F) (X:=wpList P ops (Exit.then Qn Q)) e
 cases h1
 exact h2 (.done (.AO k))
theorem St.beq {l:List Oper} {Qn:Act→World→Prop} (e:WQ T.tt ops nt Γ l some=some Γ') (k:St w0 nt Γ' F Qn):St w0 nt Γ F (XK P ops (Exit.then Qn Q) l):=by
 obtain ⟨Γ1,h1,h2⟩:=cY (P:=P) (w0:=w0) (F:=F) (X:=XK P ops (Exit.then Qn Q)) e
 cases h1
 exact h2 (.YQ (.AO k))
theorem St.ae {id:Nat} {l:List Oper} {y:Code} (e:WQ T.tt l.toArray nt Γ l some=some Γ') (k:St w0 nt Γ' F (y.wp P Q)):
  St w0 nt Γ F ((Code.seq (Code.region id l.toArray false) y).wp P Q):=.seq (.region (.be e k))
theorem St.pr (is:List Nat) (e:eS is Γ some=some Γ') (k:St w0 nt Γ' F Y):St w0 nt Γ F Y:=by
 obtain ⟨H,h3,h4⟩:=fY e
 cases h3
 exact .slots h4 k
theorem St.pf (is ks:List Nat) (d:Nat) (e:eS is Γ some=some Γ') (e':TK ks d F some=some F') (k:St w0 nt Γ' F' Y):St w0 nt Γ F Y:=
 .pr is e (.AY (zl ks d e') k)
theorem St.ss {v:Value} (i:Nat) (h:get Γ i=some v) (k:St w0 nt ((i,v)::Γ) F Y):St w0 nt Γ F Y:=
 fun a w hs hdf ha hf hw=>k a w hs hdf (At.cons (ha i v h) ha) hf hw
theorem St.nm (n:Nat) (e:wz n F some=some F') (k:St w0 nt Γ F' Y):St w0 nt Γ F Y:=by
 have:=zIe e
 cases this
 exact k
theorem St.sk {n:Act→World→Prop} (k:St w0 nt Γ F n):St w0 nt Γ F (Code.skip.wp P (Exit.then n Q)):=.skip (.AO k)
theorem St.cb {c:Operand} {x y:Code} {α:Type} {b:Bool} {p q r:α} (h:(bif b then p else q)=r) (hc:ev Γ c=some (.bool b)) (ht:p=r→St w0 nt Γ F (x.wp P Q)) (hf:q=r→St w0 nt Γ F (y.wp P Q)):
  St w0 nt Γ F ((Code.cond c x y).wp P Q):=.cond b hc (fun e=>ht (cQ e h)) (fun e=>hf (bD e h))
theorem St.rt {fn:Func} {v:Value} {rs:List ResultVar} {vs:List Value} {F':List As} (hq:Q .ret=bodyPost P fn (Out w0 R Post) .ret) (hrs:fn.results=rs.toArray) (hv:RF T.tt Γ F rs vs) (h1:SV vs=some v) (hp:Post v F') (hs:∀ w,Sat F w→Sat (F'++R) w):
  St w0 nt Γ F (Code.ret.wp P Q):=.ret (hq▸St.QC hrs hv h1 F' hp hs)
end
inductive Si where
 | k (i:Nat)
 | s (i:Nat) (v:Value)
inductive Fi where
 | k (i:Nat)
 | ro (r:Ro)
 | res (r:PZ)
instance (n:Nat):OfNat Si n:=⟨.k n⟩
instance (n:Nat):OfNat Fi n:=⟨.k n⟩
def gu {β:Type} (Γ:Env):List Si→(Env→Option β)→Option β
 | [],k=>k []
 | .k i::l,k=>match get Γ i with
  | some v=>gu Γ l fun t=>k ((i,v)::t)
  | none=>none
 | .s i v::l,k=>gu Γ l fun t=>k ((i,v)::t)
def ZH {β:Type} (F:List As) (n:Nat):List Fi→(List As→Option β)→Option β
 | [],k=>Dp n F k
 | .k i::l,k=>TU i F fun x=>ZH F n l fun t=>k (x::t)
 | .ro r::l,k=>ZH F n l fun t=>k (.ro r::t)
 | .res r::l,k=>ZH F n l fun t=>k (.res r::t)
def Zf {β:Type}:Nat→Nat→List As→(List As→Option β)→Option β
 | 0,b,F,k=>Dp b F k
 | _+1,_, [],_=>none
 | a+1,b,x::F,k=>Zf a b F fun t=>k (x::t)
theorem tI.drop {H:List As}:∀ {D:List As},tI (D++H) H
 | []=>.z
 | _::_=>.d tI.drop
theorem zFD {β:Type} {r:β}:∀ {a b:Nat} {F:List As} {k:List As→Option β},Zf a b F k=some r→∃ G,k G=some r∧tI F G
 | 0,b,F,k,h=>by
  obtain ⟨D,H,h1,h2⟩:=Zd h
  subst h1
  exact ⟨H,h2,tI.drop⟩
 | _+1,_, [],_,h=>by cases h
 | a+1,b,x::F,k,h=>by
  obtain ⟨G,h1,h2⟩:=zFD (a:=a) h
  exact ⟨x::G,h1, .k h2⟩
theorem sdx {F F':List As} {k:List As→Option (List As)} (js is:List Nat) (d:Nat) (e:TK is d F (fun H=>XZ js H k)=some F'):∃ G,k G=some F'∧∀ w,Sat F w→Sat G w:=by
 obtain ⟨H,D,h1,hp⟩:=Qe e
 obtain ⟨G,h2,h3,h4⟩:=Ze h1
 refine ⟨_,h4,fun w h=>?_⟩
 have hH:=h.part hp
 have hG:=mK h2
 refine hH.JP ?_ fun x hx=>?_
 ·rw [sK,nQ (F:=G) fun x hx=>by obtain ⟨r,rfl⟩:=hG x hx; rfl]
  simpa using hH.nodup
 ·rcases List.mem_append.1 hx with hx | hx
  ·exact h3 x hx
  ·exact hx
theorem zk {F F':List As} (a b:Nat) (js is:List Nat) (d:Nat) (e:TK is d F (fun H=>XZ js H fun t=>Zf a b t some)=some F'):∀ w,Sat F w→Sat F' w:=by
 obtain ⟨G,h1,h2⟩:=sdx js is d e
 obtain ⟨G',h3,h4⟩:=zFD h1
 cases h3
 exact fun w h=>h4.sat (h2 w h)
theorem en {P:Program} {f:FuncId} {fn:Func} (h:P.funcs[f]? =some fn) (k:(fn.name== "runtime.NumGoroutine",fn.body.isNone)=(false,false)):BX P f:=by
 injection k with k1 k2
 exact ⟨fn,h,k1,k2⟩
theorem zw {F:List As}:∀ w,Sat F w→Sat F w:=fun _ w=>w
class XQ (Q:Exit→Act→World→Prop) (i:Nat) (Y:outParam (Act→World→Prop)) (b:outParam Bool):Prop where
 h:b=true→∀ a w,Y a w→Q (.exit i) a w
instance (priority:=900) {n:Act→World→Prop} {Q:Exit→Act→World→Prop} {i:Nat} {Y:Act→World→Prop} {b:Bool} [k:XQ Q i Y b]:XQ (Exit.then n Q) i Y b:=⟨k.h⟩
instance (priority:=1000) {Q:Exit→Act→World→Prop} {i:Nat}:XQ (Exit.inBlock i Q) i (Q .normal) true:=⟨fun _ a w h=>by simpa [Exit.inBlock] using h⟩
instance (priority:=800) {Q:Exit→Act→World→Prop} {i j:Nat} {Y:Act→World→Prop} {b:Bool} [k:XQ Q i Y b]:XQ (Exit.inBlock j Q) i Y (!Nat.beq i j&&b):=⟨fun hb a w h=>by
 simp only [Bool.and_eq_true,Bool.not_eq_true'] at hb
 have:i≠j:=fun e=>by subst e; simp at hb
 simpa [Exit.inBlock,this] using k.h hb.2 a w h⟩
def Qk {β:Type} (tt:TT) (Γ:Env) (F:List As):List ResultVar→(List Value→Option β)→Option β
 | [],k=>k []
 | .tmp t::rs,k=>match get Γ t with
  | some v=>Qk tt Γ F rs fun vs=>k (v::vs)
  | none=>none
 | _,_=>none
theorem zIj {β:Type} {r:β} {tt:TT} {Γ:Env} {F:List As}:∀ {rs:List ResultVar} {k:List Value→Option β},Qk tt Γ F rs k=some r→∃ vs,RF tt Γ F rs vs∧k vs=some r
 | [],k,h=>⟨[], .nil,h⟩
 | .tmp t::rs,k,h=>by
  unfold Qk at h
  cases hv:get Γ t with
  | none=>rw [hv] at h; cases h
  | some v=>
   rw [hv] at h
   obtain ⟨vs,h1,h2⟩:=zIj (rs:=rs) h
   exact ⟨v::vs, .tmp hv h1,h2⟩
 | .cell _ _::_,k,h=>by cases h
section
variable {P:Program} [T:FP P] {w0:World} {nt:Nat} {Γ Γ':Env} {F F' G R:List As} {Q:Exit→Act→World→Prop} {ops:Array Oper} {rest:List Oper}
variable {d:Nat} {op:Op} {ty:Nat} {pos:String} {af:Array Edge} {X:List Oper→Act→World→Prop} {Y:Act→World→Prop} {Post:Value→List As→Prop} {C:World→Prop}
theorem St.DV {ε:Type} {c:Code} {n:Act→World→Prop} {Γs:ε→Env} {Fs:ε→List As} (m:Nat) (Γt:ε→List Si) (Ft:ε→List Fi) (_:(fun e=>gu Γ (Γt e) some)=fun e=>some (Γs e)) (_:(fun e=>ZH F m (Ft e) some)=fun e=>some (Fs e))
  (h1:St w0 nt Γ F (c.wp P (Exit.then (fun a w=>∃ e,a.tmps.size=nt∧a.defers= []∧At a (Γs e)∧Sat (Fs e) w∧Same w0 w) Q))) (h2:∀ e,St w0 nt (Γs e) (Fs e) n):St w0 nt Γ F (c.wp P (Exit.then n Q)):=.Bg Γs Fs h1 h2
theorem St.ES {σ ε:Type} {c:Code} {n:Act→World→Prop} {Γs:σ→ε→Env} {Fs:σ→ε→List As} (m:Nat) (Γt:σ→ε→List Si) (Ft:σ→ε→List Fi) (_:(fun s e=>gu Γ (Γt s e) some)=fun s e=>some (Γs s e)) (_:(fun s e=>ZH F m (Ft s e) some)=fun s e=>some (Fs s e))
  (I:σ→Prop) (h1:St w0 nt Γ F (c.wp P (Exit.then (fun a w=>∃ s e,I s∧a.tmps.size=nt∧a.defers= []∧At a (Γs s e)∧Sat (Fs s e) w∧Same w0 w) Q))) (h2:∀ s e,I s→St w0 nt (Γs s e) (Fs s e) n):St w0 nt Γ F (c.wp P (Exit.then n Q)):=.Bh Γs Fs I h1 h2
theorem St.cu {c:Code} {n:Act→World→Prop} (m:Nat) (Γt:List Si) (Ft:List Fi) (_:gu Γ Γt some=some Γ') (_:ZH F m Ft some=some F')
  (h1:St w0 nt Γ F (c.wp P (Exit.then (fun a w=>∃ _:Unit,a.tmps.size=nt∧a.defers= []∧At a Γ'∧Sat F' w∧Same w0 w) Q))) (h2:St w0 nt Γ' F' n):St w0 nt Γ F (c.wp P (Exit.then n Q)):=.Bg (fun _=>Γ') (fun _=>F') h1 fun _=>h2
theorem St.hU {Γs:Unit→Env} {Fs:Unit→List As} (hΓ:eS ((Γs ()).map Prod.fst) Γ some=some (Γs ())) (hF:∀ w,Sat F w→Sat (Fs ()) w):St w0 nt Γ F (fun a w=>∃ e:Unit,a.tmps.size=nt∧a.defers= []∧At a (Γs e)∧Sat (Fs e) w∧Same w0 w):=.QB () (zb hΓ) hF
theorem St.hE {ε:Type} {Γs:ε→Env} {Fs:ε→List As} (e:ε) (hΓ:eS ((Γs e).map Prod.fst) Γ some=some (Γs e)) (hF:∀ w,Sat F w→Sat (Fs e) w):St w0 nt Γ F (fun a w=>∃ e,a.tmps.size=nt∧a.defers= []∧At a (Γs e)∧Sat (Fs e) w∧Same w0 w):=.QB e (zb hΓ) hF
theorem St.ag {σ τ ε:Type} {m:σ→Option (uN σ τ)} {s s':σ} {Γs:σ→ε→Env} {Fs:σ→ε→List As} (e':ε) (hm:m s=some (.next s')) (hΓ:eS ((Γs s' e').map Prod.fst) Γ some=some (Γs s' e')) (hF:∀ w,Sat F w→Sat (Fs s' e') w):
  St w0 nt Γ F (Oy nt w0 m s Γs Fs fun _ _=>True):=.again s' e' hm trivial (zb hΓ) hF
theorem St.BM [AP] {σ τ ε:Type} {m:σ→Option (uN σ τ)} {s0:σ} {out:τ} {c:Code} {Γs:σ→ε→Env} {Fs:σ→ε→List As} (hm:yC m s0=some out) (k:Nat) (Γt:σ→ε→List Si) (Ft:σ→ε→List Fi)
  (_:(fun s e=>gu Γ (Γt s e) some)=fun s e=>some (Γs s e)) (_:(fun s e=>ZH F k (Ft s e) some)=fun s e=>some (Fs s e)) (e0:ε) (hΓ:QU (Γs s0 e0) Γ) (hF:∀ w,Sat F w→Sat (Fs s0 e0) w)
  (round:∀ s e st,m s=some st→(∀ t,st= .done t→out=t)→m s=some st→St w0 nt (Γs s e) (Fs s e) (c.wp P (Exit.then (Oy nt w0 m s Γs Fs fun _ _=>True) Q))):St w0 nt Γ F ((Code.loop c).wp P Q):=
 .loop hm Γs Fs (fun _ _=>True) e0 trivial hΓ hF fun s e _ h=>by
  obtain ⟨st,h1,h2⟩:=zPn h
  exact round s e st h1 h2 h1
theorem St.xq {i:Nat} {b:Bool} [k:XQ Q i Y b] (hb:b=true) (h:St w0 nt Γ F Y):St w0 nt Γ F ((Code.exit i).wp P Q):=.exit fun a w hs hd ha hf hw=>k.h hb a w (h a w hs hd ha hf hw)
theorem St.DX {ε:Type} {X Y:Act→World→Prop} {Γs:ε→Env} {Fs:ε→List As} (m:Nat) (Γt:ε→List Si) (Ft:ε→List Fi) (_:(fun e=>gu Γ (Γt e) some)=fun e=>some (Γs e)) (_:(fun e=>ZH F m (Ft e) some)=fun e=>some (Fs e))
  (h1:(∀ Γ₁ F₁ e,QU (Γs e) Γ₁→(∀ w,Sat F₁ w→Sat (Fs e) w)→St w0 nt Γ₁ F₁ Y)→St w0 nt Γ F X) (h2:∀ e,St w0 nt (Γs e) (Fs e) Y):St w0 nt Γ F X:=.share Γs Fs h1 h2
theorem St.bd {α β:Type} {m:Option α} {k:α→Option β} {r:β} (h:bnd m k=some r) (g:∀ x,m=some x→k x=some r→St w0 nt Γ F Y):St w0 nt Γ F Y:=by
 obtain ⟨x,h1,h2⟩:=bg h
 exact g x h1 h2
theorem St.gs {dst:Option Nat} {j:Nat} {b:Bool} {c:Bool} {α:Type} {p q r:α} (dj:Nat) (h:(bif c then p else q)=r) (hg:get Γ dj=some (.bool c))
  (ht:p=r→St w0 nt ((dj, .bool true)::Γ) F (X (⟨dst,op,ty,pos,af,some (j,b)⟩::rest))) (QV:q=r→St w0 nt ((dj, .bool false)::Γ) F (X (⟨dst,op,ty,pos,af,some (j,b)⟩::rest))):
  St w0 nt Γ F (X (⟨dst,op,ty,pos,af,some (j,b)⟩::rest)):=.OQ c hg (fun e=>ht (cQ e h)) (fun e=>QV (bD e h))
theorem St.lb [W:Walk P ops X] {t:Nat} {x:Operand} {g t':Nat} {cs:List Value} {v:Value} (off i:Nat) (e:(Nat.blt d nt,ev Γ x,TU i F some,pV T.tt t cs off)=(true,some (.pointer (some ⟨g,off,none⟩)),some (.res (Box g t' cs)),some v))
  (k:St w0 nt ((d,v)::Γ) F (X rest)):St w0 nt Γ F (X (⟨some d, .load t x,ty,pos,af,none⟩::rest)):=by
 injection e with e1 e
 injection e with e2 e
 injection e with e3 e4
 exact .JO off e1 e2 (zm i e3) O e4 k
theorem St.sb {t:Nat} {x y:Operand} {g t':Nat} {i:TI} {cs cs':List Value} {v:Value} {G:List As} (off n:Nat) (e:(Dn n F (fun x G=>some (x,G)),ev Γ x,ev Γ y,yK T.tt t,vZ cs off (zc v) some,Nat.beq (zc v).length i.size,(zc v).all fun u=>u.oneCell')=(some (.res (Box g t' cs),G),some (.pointer (some ⟨g,off,none⟩)),some v,some i,some cs',true,true))
  (k:St w0 nt Γ (.res (Box g t' cs')::G) (wpList P ops Q rest)):St w0 nt Γ F (wpList P ops Q (⟨none, .store t x y,ty,pos,af,none⟩::rest)):=by
 injection e with e1 e
 injection e with e2 e
 injection e with e3 e
 injection e with e4 e
 injection e with e5 e
 injection e with e6 e7
 exact .store off e2 e3 O e4 e6 e7 (zi n e1) e5 k
theorem St.cq {f:FuncId} {args:List Value} {x:Operand} {xs:List Operand} {ts:Array Nat} {V:Value} {L:List As} (n:Nat) (js is:List Nat) (q:Nat) (h:BA P f args G (fun v F=>v=V∧F=L)) (he:BX P f)
  (e:(Nat.blt d nt,ev Γ x,evs Γ xs,TK is q F (fun H=>XZ js H some),wz n (L++R) some)=(true,some (.func (.func f) #[] #[]),some args,some (G++R),some F')) (k:St w0 nt ((d,V)::Γ) F' (wpList P ops Q rest)):
  St w0 nt Γ F (wpList P ops Q (⟨some d, .call { callee:=.value x,args:=xs.toArray,argTypes:=ts },ty,pos,af,none⟩::rest)):=by
 injection e with e1 e
 injection e with e2 e
 injection e with e3 e
 injection e with e4 e5
 refine .call h he e1 e2 e3 (zd js is q e4) ?_
 rintro _ _ ⟨rfl,rfl⟩
 exact .nm n e5 k
theorem St.cr {f:FuncId} {args:List Value} {x:Operand} {xs:List Operand} {ts:Array Nat} {V:Option Addr→Nat→Value} {L:Option Addr→Nat→List As} {F':Option Addr→Nat→List As} (n:Nat) (js is:List Nat) (q:Nat)
  (h:BA P f args G (fun v F=>∃ (A:Option Addr) (c:Nat),v=V A c∧F=L A c)) (he:BX P f)
  (e:(Nat.blt d nt,ev Γ x,evs Γ xs,TK is q F (fun H=>XZ js H some),fun A c=>wz n (L A c++R) some)=(true,some (.func (.func f) #[] #[]),some args,some (G++R),fun A c=>some (F' A c)))
  (k:∀ A c,St w0 nt ((d,V A c)::Γ) (F' A c) (wpList P ops Q rest)):
  St w0 nt Γ F (wpList P ops Q (⟨some d, .call { callee:=.value x,args:=xs.toArray,argTypes:=ts },ty,pos,af,none⟩::rest)):=by
 injection e with e1 e
 injection e with e2 e
 injection e with e3 e
 injection e with e4 e5
 refine .call h he e1 e2 e3 (zd js is q e4) ?_
 rintro _ _ ⟨A,c,rfl,rfl⟩
 exact .nm n (congrFun (congrFun e5 A) c) (k A c)
theorem St.ct {f:FuncId} {args:List Value} {x:Operand} {xs:List Operand} {ts:Array Nat} {V:Option Addr→Nat→Option Addr→Nat→Value} {L:Option Addr→Nat→Option Addr→Nat→List As} {F':Option Addr→Nat→Option Addr→Nat→List As} (n:Nat) (js is:List Nat) (q:Nat)
  (h:BA P f args G (fun v F=>∃ (A:Option Addr) (c:Nat) (B:Option Addr) (b:Nat),v=V A c B b∧F=L A c B b)) (he:BX P f)
  (e:(Nat.blt d nt,ev Γ x,evs Γ xs,TK is q F (fun H=>XZ js H some),fun A c B b=>wz n (L A c B b++R) some)=(true,some (.func (.func f) #[] #[]),some args,some (G++R),fun A c B b=>some (F' A c B b)))
  (k:∀ A c B b,St w0 nt ((d,V A c B b)::Γ) (F' A c B b) (wpList P ops Q rest)):
  St w0 nt Γ F (wpList P ops Q (⟨some d, .call { callee:=.value x,args:=xs.toArray,argTypes:=ts },ty,pos,af,none⟩::rest)):=by
 injection e with e1 e
 injection e with e2 e
 injection e with e3 e
 injection e with e4 e5
 refine .call h he e1 e2 e3 (zd js is q e4) ?_
 rintro _ _ ⟨A,c,B,b,rfl,rfl⟩
 exact .nm n (congrFun (congrFun (congrFun (congrFun e5 A) c) B) b) (k A c B b)
theorem St.cv [W:Walk P ops X] {f:FuncId} {args:List Value} {v:Value} {x:Operand} {xs:List Operand} {ts:Array Nat} (is:List Nat) (h:BA P f args G (Val v)) (he:BX P f)
  (e:(Nat.blt d nt,ev Γ x,evs Γ xs,oS G,Qh is F some)=(true,some (.func (.func f) #[] #[]),some args,true,some G)) (k:St w0 nt ((d,v)::Γ) F (X rest)):
  St w0 nt Γ F (X (⟨some d, .call { callee:=.value x,args:=xs.toArray,argTypes:=ts },ty,pos,af,none⟩::rest)):=by
 injection e with e1 e
 injection e with e2 e
 injection e with e3 e
 injection e with e4 e5
 exact .YS h he e1 e2 e3 e4 (za is e5) k
theorem St.rv {fn:Func} {v:Value} {F':List As} (hq:Q .ret=bodyPost P fn (Out w0 R Post) .ret) (e:Qk T.tt Γ F fn.results.toList SV=some v) (hp:Post v F') (hs:∀ w,Sat F w→Sat (F'++R) w):
  St w0 nt Γ F (Code.ret.wp P Q):=by
 obtain ⟨vs,h1,h2⟩:=zIj e
 exact .rt hq (by simp) h1 h2 hp hs
theorem St.IB [W:Walk P ops X] {α:Type} {E:Enc α} {t e:Nat} {i j:TI} {x ix:Operand} {A:Option Addr} {c:Nat} {kk:IntKind} {q:Int} {xs:List α} {y:α} (hy:BP xs q=some y) (m:Nat)
  (h:(Nat.blt d nt,ev Γ x,ev Γ ix,TU m F some,yK T.tt t,i.desc,yK T.tt e,j.size)=(true,some (.slice A xs.length c),some (.int kk q),some (.ro (AV E A c xs)),some i, .slice e,some j,E.sz))
  (k:∀ b o,St w0 nt ((d, .pointer (some ⟨b,o,none⟩))::Γ) (.ro (oU b o (E.enc y))::F) (X rest)):St w0 nt Γ F (X (⟨some d, .indexAddr t x ix,ty,pos,af,none⟩::rest)):=by
 simp only [Prod.mk.injEq] at h
 exact .SY hy h.1 h.2.1 h.2.2.1 (zm m h.2.2.2.1) O h.2.2.2.2.1 h.2.2.2.2.2.1 h.2.2.2.2.2.2.1 h.2.2.2.2.2.2.2 k
theorem St.PW [W:Walk P ops X] {α:Type} {E:Enc α} {t e e':Nat} {i j:TI} {x ix:Operand} {A:Option Addr} {c:Nat} {kk:IntKind} {q:Int} {xs:List α} {y:α} (hy:BP xs q=some y) (m:Nat)
  (h:(Nat.blt d nt,ev Γ x,ev Γ ix,TU m F some,yK T.tt t,i.desc,yK T.tt e,j.size)=(true,some (.slice A xs.length c),some (.int kk q),some (.res (zI E e' A c xs)),some i, .slice e,some j,E.sz))
  (k:∀ g,A=some ⟨g,0,none⟩→St w0 nt ((d, .pointer (some ⟨g,q.toNat*E.sz,none⟩))::Γ) F (X rest)):St w0 nt Γ F (X (⟨some d, .indexAddr t x ix,ty,pos,af,none⟩::rest)):=by
 simp only [Prod.mk.injEq] at h
 exact .TA hy h.1 h.2.1 h.2.2.1 (zm m h.2.2.2.1) O h.2.2.2.2.1 h.2.2.2.2.2.1 h.2.2.2.2.2.2.1 h.2.2.2.2.2.2.2 k
theorem St.KY [W:Walk P ops X] {α:Type} {ls:List (LC α)} {t e:Nat} {i j:TI} {x ix:Operand} {A:Option Addr} {c:Nat} {kk:IntKind} {q:Int} {xs:List α} {y:α} (hy:BP xs q=some y) (m:Nat)
  (h:(Nat.blt d nt,ev Γ x,ev Γ ix,TU m F some,yK T.tt t,i.desc,yK T.tt e,j.size)=(true,some (.slice A xs.length c),some (.int kk q),some (.ro (Sl (zT ls) A c xs)),some i, .slice e,some j,ls.length))
  (k:∀ b o (ex:KH ls),St w0 nt ((d, .pointer (some ⟨b,o,none⟩))::Γ) (.ro (oU b o (tM y ls ex))::(wX y ls ex++F)) (X rest)):St w0 nt Γ F (X (⟨some d, .indexAddr t x ix,ty,pos,af,none⟩::rest)):=by
 simp only [Prod.mk.injEq] at h
 exact .ZA hy h.1 h.2.1 h.2.2.1 (zm m h.2.2.2.1) O h.2.2.2.2.1 h.2.2.2.2.2.1 h.2.2.2.2.2.2.1 h.2.2.2.2.2.2.2 k
theorem St.ld [W:Walk P ops X] {t:Nat} {x:Operand} {b:Nat} {cs:List Value} {v:Value} (o:Nat) (off m:Nat) (h:(Nat.blt d nt,ev Γ x,TU m F some,pV T.tt t cs off)=(true,some (.pointer (some ⟨b,o+off,none⟩)),some (.ro (oU b o cs)),some v))
  (k:St w0 nt ((d,v)::Γ) F (X rest)):St w0 nt Γ F (X (⟨some d, .load t x,ty,pos,af,none⟩::rest)):=by
 simp only [Prod.mk.injEq] at h
 exact .load o off h.1 h.2.1 (zm m h.2.2.1) O h.2.2.2 k
theorem St.bS {t e n:Nat} {i j:TI} {ps:Array (Nat × Operand)} {cs:List Value} (h:(Nat.blt d nt,yK T.tt t,i.desc,yK T.tt e,Nat.beq (zc j.zero).length j.size,Nat.blt 0 j.size,XM Γ (fun i=>some (i*j.size,j.size)) (bJ n (zc j.zero)) ps.toList,Nat.ble (n*j.size) 16777216)=(true,some i, .slice e,some j,true,true,some cs,true))
  (k:∀ g,St w0 nt ((d, .slice (some ⟨g,0,none⟩) n n)::Γ) (.res (Box g e cs)::F) (wpList P ops Q rest)):St w0 nt Γ F (wpList P ops Q (⟨some d, .buildSlice t n ps,ty,pos,af,none⟩::rest)):=by
 simp only [Prod.mk.injEq] at h
 exact .buildSlice h.1 h.2.1 h.2.2.1 h.2.2.2.1 h.2.2.2.2.1 h.2.2.2.2.2.1 h.2.2.2.2.2.2.1 h.2.2.2.2.2.2.2 k
theorem St.sB {X:Act→World→Prop} {c:Bool} {α:Type} {p q r:α} (dj:Nat) (h:(bif c then p else q)=r) (hg:get Γ dj=some (.bool c)) (ht:p=r→St w0 nt ((dj, .bool true)::Γ) F X) (QV:q=r→St w0 nt ((dj, .bool false)::Γ) F X):St w0 nt Γ F X:=
 .splitB c hg (fun e=>ht (cQ e h)) (fun e=>QV (bD e h))
theorem St.yl {t:Nat} {x:Operand} {g t':Nat} {cs:List Value} {v:Value} {F₁:List As} {Qn:Act→World→Prop} {rest:Tr} {i:Nat} (off m:Nat) (h:(Nat.blt d nt,ev Γ x,TU m F₁ some,pV T.tt t cs off)=(true,some (.pointer (some ⟨g,off,none⟩)),some (.res (Box g t' cs)),some v))
  (k:St w0 nt ((d,v)::Γ) F (IA P ops (Sat F₁) Qn rest)):St w0 nt Γ F (IA P ops (Sat F₁) Qn (.st ⟨.fl,i,⟨some d, .load t x,ty,pos,af,none⟩⟩ rest)):=by
 simp only [Prod.mk.injEq] at h
 exact .KT (fun _ h=>h) (Rd.JO off h.2.1 (zm m h.2.2.1) O h.2.2.2) h.1 k
theorem St.yx {t:Nat} {x:Operand} {g t':Nat} {cs:List Value} {v:Value} {Qn:Act→World→Prop} {rest:Tr} {i:Nat} (off m:Nat) (h:(Nat.blt d nt,ev Γ x,TU m F some,pV T.tt t cs off)=(true,some (.pointer (some ⟨g,off,none⟩)),some (.res (Box g t' cs)),some v))
  (k:St w0 nt ((d,v)::Γ) F (IA P ops C Qn rest)):St w0 nt Γ F (IA P ops C Qn (.st ⟨.fx,i,⟨some d, .load t x,ty,pos,af,none⟩⟩ rest)):=by
 simp only [Prod.mk.injEq] at h
 exact .JC (Rd.JO off h.2.1 (zm m h.2.2.1) O h.2.2.2) h.1 k
def tg4:Nat→Tg
 | 0=>.fl
 | 1=>.fx
 | 2=>.qc
 | _=>.ef
def iN:List Nat→WO→WO
 | [],t=>t
 | n::r,t=>.st (tg4 (n % 4)) (n / 4) (iN r t)
def Dq:Tg→Bool
 | .fl=>true
 | .fx=>true
 | _=>false
def xg {β:Type} (tt:TT) (ops:Array Oper) (nt:Nat):Nat→Env→Tr→(Env→Tr→Option β)→Option β
 | 0,Γ,t,k=>k Γ t
 | _+1,_, .nil,_=>none
 | _+1,_, .alt _ _,_=>none
 | n+1,Γ, .st z t,k=>match z.o.dst with
  | none=>none
  | some d=>bif Nat.blt d nt then (match z.o.guard with
   | none=>bif Dq z.t then (match OB tt Γ z.o.op with
    | some v=>xg tt ops nt n ((d,v)::Γ) t k
    | none=>none) else none
   | some (j,b)=>match WI ops j with
    | none=>none
    | some dj=>match get Γ dj with
     | none=>none
     | some v=>bif dQ v b then xg tt ops nt n ((d,undef)::Γ) t k else (bif Dq z.t then (match OB tt Γ z.o.op with
      | some u=>xg tt ops nt n ((d,u)::Γ) t k
      | none=>none) else none)) else none
theorem bT {β:Type} {r:β} {k:Env→Tr→Option β} {Qn:Act→World→Prop}:∀ {n:Nat} {Γ:Env} {t:Tr},xg T.tt ops nt n Γ t k=some r→∃ Γ' t',k Γ' t'=some r∧(St w0 nt Γ' F (IA P ops C Qn t')→St w0 nt Γ F (IA P ops C Qn t))
  | 0,Γ,t,h=>⟨Γ,t,h,id⟩
  | _+1,_, .nil,h=>by cases h
  | _+1,_, .alt _ _,h=>by cases h
  | n+1,Γ, .st ⟨g,i,⟨dst,op,ty,pos,af,gd⟩⟩ t,h=>by
    unfold xg at h
    cases dst with
    | none=>cases h
    | some d=>
      simp only at h
      cases hd:Nat.blt d nt with
      | false=>rw [hd] at h; cases h
      | true=>
        rw [hd] at h
        simp only [cond_true] at h
        have hp:∀ {u:Value} {Γ':Env},Dq g=true→OB T.tt Γ' op=some u→St w0 nt ((d,u)::Γ') F (IA P ops C Qn t)→St w0 nt Γ' F (IA P ops C Qn (.st ⟨g,i,⟨some d,op,ty,pos,af,none⟩⟩ t)):=fun hg hv k=>by
          cases g with
          | fl=>exact .KT (F₁:= []) (fun w _=>Sat.nil w) (Rd.p hv) hd k
          | fx=>exact .JC (Rd.p hv) hd k
          | _=>cases hg
        cases gd with
        | none=>
          simp only at h
          cases hg:Dq g with
          | false=>rw [hg] at h; cases h
          | true=>
            rw [hg,cond_true] at h
            cases hv:OB T.tt Γ op with
            | none=>rw [hv] at h; cases h
            | some v=>
              rw [hv] at h
              obtain ⟨Γ2,t2,h3,h4⟩:=bT (n:=n) h
              exact ⟨Γ2,t2,h3,fun k=>hp hg hv (h4 k)⟩
        | some jb=>
          obtain ⟨j,b⟩:=jb
          simp only at h
          cases hj:WI ops j with
          | none=>rw [hj] at h; cases h
          | some dj=>
            rw [hj] at h
            simp only at h
            cases hgt:get Γ dj with
            | none=>rw [hgt] at h; cases h
            | some v=>
              rw [hgt] at h
              simp only at h
              cases hn:dQ v b with
              | true=>
                rw [hn,cond_true] at h
                obtain ⟨Γ2,t2,h3,h4⟩:=bT (n:=n) h
                exact ⟨Γ2,t2,h3,fun k=>.Cm hd hj hgt hn (h4 k)⟩
              | false=>
                rw [hn,cond_false] at h
                have hb:v= .bool b:=by
                  cases v <;> simp [dQ] at hn
                  rw [hn]
                cases hg:Dq g with
                | false=>rw [hg] at h; cases h
                | true=>
                  rw [hg,cond_true] at h
                  cases hv:OB T.tt Γ op with
                  | none=>rw [hv] at h; cases h
                  | some u=>
                    rw [hv] at h
                    obtain ⟨Γ2,t2,h3,h4⟩:=bT (n:=n) h
                    exact ⟨Γ2,t2,h3,fun k=>.IY hj (hb▸hgt) (hp hg hv (h4 k))⟩
theorem St.yn (n:Nat) {t t':Tr} {Qn:Act→World→Prop} (e:xg T.tt ops nt n Γ t (fun Γ t=>some (Γ,t))=some (Γ',t')) (k:St w0 nt Γ' F (IA P ops C Qn t')):St w0 nt Γ F (IA P ops C Qn t):=by
 obtain ⟨Γ1,t1,h1,h2⟩:=bT (P:=P) (w0:=w0) (F:=F) (ops:=ops) (C:=C) (Qn:=Qn) e
 cases h1
 exact h2 k
end
def kR (b:Bool) (g:Nat):Option Addr:=bif b then some ⟨g,0,none⟩ else none
def nD (b:Bool):Option Bool:=bif b then some true else none
theorem zTX {b x:Bool} (h:nD b=some x):b=true:=by
 cases b
 ·cases h
 ·rfl
theorem zTi {b:Bool} {g:Nat} (h:b=true):kR b g=some ⟨g,0,none⟩:=by subst h; rfl
theorem uD {b x:Bool} {g:Nat} (h:nD b=some x):some (Value.pointer (kR b g))=some (Value.pointer (some ⟨g,0,none⟩)):=by rw [zTi (zTX h)]
theorem JJ.none0 {α:Type} {E:FQ α} (m:Hp):JJ E none 0 [] m:=⟨Nat.le_refl _,by simp [maxLen],fun _=>O,fun ad h=>by cases h⟩
def TV {α β:Type} (eq:α→α→Bool):List (α × β)→α→List (α × β)
 | [],_=> []
 | x::r,k=>bif eq k x.1 then r else x::TV eq r k
def qO {α β:Type} (K:oL α) (E:FQ β) (z:Hp):List (α × List β)→List MapEntry→Prop
 | [], []=>True
 | x::m,e::es=>e.key=K.v x.1∧(∃ A c,e.val= .slice A x.2.length c∧JJ E A c x.2 z)∧qO K E z m es
 | _,_=>False
theorem qO.mono {α β:Type} {K:oL α} {E:FQ β} {z z':Hp} (hz:Hp.le z z'):∀ {m:List (α × List β)} {es:List MapEntry},qO K E z m es→qO K E z' m es
 | [], [],_=>trivial
 | x::m,e::es,h=>by
  obtain ⟨h1,⟨A,c,h2,h3⟩,h4⟩:=h
  exact ⟨h1,⟨A,c,h2,(Sl E A c x.2).mono _ _ hz h3⟩,qO.mono hz h4⟩
 | [],_::_,h=>h.elim
 | _::_, [],h=>h.elim
theorem qO.len {α β:Type} {K:oL α} {E:FQ β} {z:Hp}:∀ {m:List (α × List β)} {es:List MapEntry},qO K E z m es→es.length=m.length
 | [], [],_=>rfl
 | _::_,_::_,h=>by simp [qO.len h.2.2]
 | [],_::_,h=>h.elim
 | _::_, [],h=>h.elim
theorem qO.snoc {α β:Type} {K:oL α} {E:FQ β} {z:Hp} {k:α} {v:List β} {e:MapEntry} (hk:e.key=K.v k) (hv:∃ A c,e.val= .slice A v.length c∧JJ E A c v z):∀ {m:List (α × List β)} {es:List MapEntry},qO K E z m es→qO K E z (m++ [(k,v)]) (es++ [e])
 | [], [],_=>⟨hk,hv,trivial⟩
 | _::_,_::_,h=>⟨h.1,h.2.1,qO.snoc hk hv h.2.2⟩
 | [],_::_,h=>h.elim
 | _::_, [],h=>h.elim
def PX (es:List MapEntry) (cl:Nat):Prop:=(∀ x∈es,x.born<cl)∧(es.map (·.born)).Nodup
theorem PX.nil (cl:Nat):PX [] cl:=⟨(fun x h=>by cases h),List.nodup_nil⟩
theorem PX.push {es:List MapEntry} {cl:Nat} (h:PX es cl) (k v:Value):PX (es++ [⟨k,v,cl⟩]) (cl+1):=by
 refine ⟨fun x hx=>?_,?_⟩
 ·rcases List.mem_append.1 hx with hx | hx
  ·have:=h.1 x hx; omega
  ·rw [List.mem_singleton] at hx; subst hx; exact Nat.lt_succ_self _
 ·rw [List.map_append]
  refine List.nodup_append.2 ⟨h.2,by simp,fun a ha b hb=>?_⟩
  obtain ⟨x,hx,rfl⟩:=List.mem_map.1 ha
  have:=h.1 x hx
  simp only [List.map_cons,List.map_nil,List.mem_singleton] at hb
  omega
theorem PX.modify {f:MapEntry→MapEntry} (hb:∀ e,(f e).born=e.born):∀ {es:List MapEntry} {cl:Nat} (i:Nat),PX es cl→PX (es.modify i f) cl:=fun {es cl} i h=>by
 have e:∀ (l:List MapEntry) (i:Nat),(l.modify i f).map (·.born)=l.map (·.born):=fun l=>by
  induction l with
  | nil=>intro i; cases i <;> rfl
  | cons x r ih=>
   intro i
   cases i with
   | zero=>simp [hb]
   | succ i=>simp [ih]
 refine ⟨fun x hx=>?_,by rw [e]; exact h.2⟩
 have:x.born∈(es.modify i f).map (·.born):=List.mem_map_of_mem hx
 rw [e] at this
 obtain ⟨y,hy,hyb⟩:=List.mem_map.1 this
 rw [←hyb]
 exact h.1 y hy
theorem PX.erase {es:List MapEntry} {cl:Nat} (h:PX es cl) (i:Nat):PX (es.eraseIdx i) cl:=
 ⟨fun x hx=>h.1 x ((List.eraseIdx_sublist es i).mem hx),List.Nodup.sublist ((List.eraseIdx_sublist es i).map _) h.2⟩
def yV {α β:Type} (K:oL α) (E:FQ β) (A:Option Nat) (m:Option (List (α × List β))):PZ where
 gs:=A.toList
 p _:=True
 loc _ _ _ h:=h
 q h z:=match A,m with
  | none,none=>True
  | some g,some m=>∃ es clock,h g=some (.map es clock)∧qO K E z m es.toList∧PX es.toList clock
  | _,_=>False
 QA m m' z z' hm hz h:=by
  rename_i mm
  cases A with
  | none=>
   cases mm with
   | none=>exact h
   | some x=>exact h
  | some g=>
   cases mm with
   | none=>exact h
   | some x=>
    obtain ⟨es,cl,h1,h2,h3⟩:=h
    exact ⟨es,cl,(hm g (by simp)).symm.trans h1,h2.mono hz,h3⟩
theorem yV.get {α β:Type} {K:oL α} {E:FQ β} {A:Option Nat} {m:Option (List (α × List β))} {h z:Hp} (hq:(yV K E A m).q h z):
  (A=none∧m=none)∨∃ g l es cl,A=some g∧m=some l∧h g=some (.map es cl)∧qO K E z l es.toList:=by
 cases A with
 | none=>
  cases m with
  | none=>exact .inl ⟨O,O⟩
  | some x=>exact False.elim hq
 | some g=>
  cases m with
  | none=>exact False.elim hq
  | some x=>
   obtain ⟨es,cl,h1,h2,_⟩:=hq
   exact .inr ⟨g,x,es,cl,O,O,h1,h2⟩
theorem yV.Ql {α β:Type} {K:oL α} {E:FQ β} {g:Nat} {m:Option (List (α × List β))} {es:Array MapEntry} {cl:Nat} {h z:Hp} (hq:(yV K E (some g) m).q h z) (ho:h g=some (.map es cl)):PX es.toList cl:=by
 cases m with
 | none=>exact False.elim hq
 | some x=>
  obtain ⟨es',cl',h1,_,h3⟩:=hq
  rw [ho] at h1
  injection h1 with h1
  injection h1 with h4 h5
  subst h4; subst h5
  exact h3
theorem Qm {α β:Type} (K:oL α) (E:FQ β) {d:TypeDesc} (hd:TD.of d=K.td) (k:α) (z:Hp):∀ (m:List (α × List β)) (es:List MapEntry) (n:Nat),qO K E z m es→
  (vW K.eq m k=none∧Instr.findNow d (K.v k) es n=some none∧(∀ v,nX K.eq m k v=m++ [(k,v)])∧TV K.eq m k=m)∨
  ∃ i b e,vW K.eq m k=some b∧Instr.findNow d (K.v k) es n=some (some (n+i,e.val))∧es[i]? =some e∧Instr.sameBits 10000 e.key (K.v k)=true∧(∃ A c,e.val= .slice A b.length c∧JJ E A c b z)∧
   (∀ v u,(∃ A c,u= .slice A v.length c∧JJ E A c v z)→qO K E z (nX K.eq m k v) (es.modify i fun e=> { e with key:=K.v k,val:=u }))∧qO K E z (TV K.eq m k) (es.eraseIdx i)
 | [], [],n,h=>.inl ⟨O,O,fun _=>rfl,O⟩
 | [],_::_,_,h=>h.elim
 | _::_, [],_,h=>h.elim
 | x::m,e::es,n,h=>by
  obtain ⟨h1,h2,h3⟩:=h
  have hs:=K.same d k x.1 hd
  cases hc:K.eq k x.1
  ·rw [hc] at hs
   rcases Qm K E hd k z m es (n+1) h3 with ⟨g1,g2,g3,g4⟩ | ⟨i,b,e',g1,g2,g3,g4,g5,g6,g7⟩
   ·exact .inl ⟨by simp [vW,hc,g1],by simp [Instr.findNow,h1,hs,g2],fun v=>by simp [nX,hc,g3],by simp [TV,hc,g4]⟩
   ·refine .inr ⟨i+1,b,e',by simp [vW,hc,g1],by simp [Instr.findNow,h1,hs,g2]; omega,by simpa using g3,g4,g5,fun v u hu=>?_,?_⟩
    ·have:=g6 v u hu
     simp only [nX,hc,cond_false,List.modify_succ_cons]
     exact ⟨h1,h2,this⟩
    ·simp only [TV,hc,cond_false,List.eraseIdx_cons_succ]
     exact ⟨h1,h2,g7⟩
  ·rw [hc] at hs
   refine .inr ⟨0,x.2,e,by simp [vW,hc],by simp [Instr.findNow,h1,hs],O,by rw [h1]; exact K.stay _ _ hc,h2,fun v u hu=>?_,?_⟩
   ·simp only [nX,hc,cond_true,List.modify_zero_cons]
    exact ⟨O,hu,h3⟩
   ·simp only [TV,hc,cond_true,List.eraseIdx_cons_zero]
    exact h3
theorem Sat.TW {α β:Type} {F:List As} {w:World} (h:Sat F w) (K:oL α) (E:FQ β):Sat (.res (yV K E none none)::F) w:=
 h.GH (Ext.refl w) (yV K E none none) (by simp [yV]) (fun k hk=>by simp [yV] at hk) trivial trivial
theorem kA {α:Type} {K:oL α} {P:Program} {t:Nat} {d:TypeDesc} (e:Bool) (k:α) (w:World) (hu:P.underlying t=some d) (hd:TD.of d=K.td):(Instr.checkKey e 10000 t (K.v k)).run P w= .ok () w:=K.plain P t d e k w hu hd
section
variable {P:Program} [T:FP P] {w0:World} {nt:Nat} {Γ Γ':Env} {F F' G R:List As} {Q:Exit→Act→World→Prop} {ops:Array Oper} {rest:List Oper}
variable {d:Nat} {op:Op} {ty:Nat} {pos:String} {af:Array Edge} {X:List Oper→Act→World→Prop} {Post:Value→List As→Prop}
theorem St.QI {α β:Type} {K:oL α} {E:FQ β} {t:Nat} (hd:Nat.blt d nt=true) (k:∀ g,St w0 nt ((d, .map (some g))::Γ) (.res (yV K E (some g) (some []))::F) (wpList P ops Q rest)):
    St w0 nt Γ F (wpList P ops Q (⟨some d, .makeMap t none,ty,pos,af,none⟩::rest)):=
  fun a w hs hdf ha hf hw=>wpList_plain O fun K' hK=>by
    unfold Oper.wp
    have hr:(execOp a.eval ⟨some d, .makeMap t none,ty,pos,af,none⟩).run P w= .ok (.value (.map (some w.heap.size))) (w.alloc (.map #[] 0)):=by
      simp [execOp,zHT]
    rw [hr]
    refine hK _ _ (k _ _ _ (by simp [Act.put,hs]) hdf (ha.put (hs▸Nat.le_of_ble_eq_true hd)) (hf.GH (Ext.alloc w _) _ (by simp [yV]) (fun k hk=>by simp [yV] at hk; subst hk; simp) trivial ⟨_,_,nA w _,trivial,PX.nil _⟩) (hw.trans (Ext.alloc w _).toSame))
theorem St.TL {α β:Type} {K:oL α} {E:FQ β} {t kt e:Nat} {i j l:TI} {A:Option Nat} {m:Option (List (α × List β))} {x y:Operand} {comma:Bool} (k:α) (hd:Nat.blt d nt=true) (hx:ev Γ x=some (.map A)) (hy:ev Γ y=some (K.v k)) (hm:As.res (yV K E A m)∈F)
    (hi:yK T.tt t=some i) (hdesc:i.desc= .map kt e) (hj:yK T.tt kt=some j) (hjd:j.desc=K.td) (hl:yK T.tt e=some l) (hz:l.zero= .slice none 0 0)
    (c:∀ B c,St w0 nt ((d,if comma then .tuple #[.slice B ((vW K.eq (m.getD []) k).getD []).length c, .bool (vW K.eq (m.getD []) k).isSome] else .slice B ((vW K.eq (m.getD []) k).getD []).length c)::Γ) (.ro (Sl E B c ((vW K.eq (m.getD []) k).getD []))::F) (wpList P ops Q rest)):
    St w0 nt Γ F (wpList P ops Q (⟨some d, .lookup t x y comma,ty,pos,af,none⟩::rest)):=
  fun a w hs hdf ha hf hw=>wpList_plain O fun K' hK=>by
    obtain ⟨d1,hu1,hd1⟩:=T.ok.desc hi
    obtain ⟨d2,hu2,hd2⟩:=T.ok.desc hj
    have h1:=TD.of_map (hd1.trans hdesc)
    subst h1
    have hz0:=vP T.ok hl w
    have go:∃ B c,(execOp a.eval ⟨some d, .lookup t x y comma,ty,pos,af,none⟩).run P w= .ok (.value (if comma then .tuple #[.slice B ((vW K.eq (m.getD []) k).getD []).length c, .bool (vW K.eq (m.getD []) k).isSome] else .slice B ((vW K.eq (m.getD []) k).getD []).length c)) w∧(Sl E B c ((vW K.eq (m.getD []) k).getD [])).p (GV (yB F) w):=by
      rcases yV.get (hf.KJ hm) with ⟨rfl,rfl⟩ | ⟨g,l',es,cl,rfl,rfl,ho,hE⟩
      · have h2 := kA true k w hu2 (hd2.trans hjd)
        refine ⟨none,0,?_,JJ.none0 _⟩
        cases comma <;> simp [execOp,ha.eval hx,ha.eval hy,Instr.lookup,run_underlying hu1,h2,Instr.findKey,Instr.findNow,run_underlying hu2,hz0,hz,vW]
      · have ho' : w.heap[g]? = some (.map es cl) := ho
        have hg:(getObj g).run P w= .ok (.map es cl) w:=jO ho'
        have h2:=kA es.isEmpty k w hu2 (hd2.trans hjd)
        rcases Qm K E (hd2.trans hjd) k _ l' es.toList 0 hE with ⟨g1,g2,_⟩ | ⟨i',b,e',g1,g2,_,_,⟨B,c,g3,g4⟩,_⟩
        · refine ⟨none, 0, ?_, by simp only [Option.getD_some, g1, Option.getD_none]; exact JJ.none0 _⟩
          cases comma <;> simp [execOp,ha.eval hx,ha.eval hy,Instr.lookup,run_underlying hu1,hg,h2,Instr.findKey,run_underlying hu2,g2,hz0,hz,g1]
        · refine ⟨B, c, ?_, by simp only [Option.getD_some, g1]; exact g4⟩
          cases comma <;> simp [execOp,ha.eval hx,ha.eval hy,Instr.lookup,run_underlying hu1,hg,h2,Instr.findKey,run_underlying hu2,g2,g1,g3]
    obtain ⟨B,cc,hr,hsl⟩:=go
    unfold Oper.wp
    rw [hr]
    exact hK _ _ (c B cc _ w (by simp [Act.put,hs]) hdf (ha.put (hs▸Nat.le_of_ble_eq_true hd)) (hf.FI _ hsl) hw)
theorem Qo {P:Program} {w:World} {g:Nat} {es:Array MapEntry} {cl:Nat} (ho:w.heap[g]? =some (.map es cl)) (o:Obj):∃ w',(setObj g o).run P w= .ok () w'∧sS [g] w w'∧hp w' g=some o:=by
 have hlt:=(Array.getElem?_eq_some_iff.1 ho).1
 refine ⟨{ w with heap:=w.heap.setIfInBounds g o },zGz o ho,⟨⟨O,O,O,by simp⟩,fun i hi hn=>?_⟩,?_⟩
 ·simp only [List.mem_singleton] at hn
  show (w.heap.setIfInBounds g o)[i]? =w.heap[i]?
  rw [Array.getElem?_setIfInBounds_ne (fun h=>hn h.symm)]
 ·show (w.heap.setIfInBounds g o)[g]? =some o
  simp [hlt]
def mapM {α:Type} (m:Option α):Option α:=m
theorem yV.turn {α β:Type} {K:oL α} {E:FQ β} {g:Nat} {l l':List (α × List β)} {w w':World} {es:Array MapEntry} {cl:Nat} (hf:Sat (.res (yV K E (some g) (some l))::G) w) (hwr:sS [g] w w') (hh:hp w' g=some (.map es cl))
  (hE:qO K E (GV (yB (.res (yV K E (some g) (some l))::G)) w) l' es.toList) (hS:PX es.toList cl):Sat (.res (yV K E (some g) (some l'))::G) w':=by
 have hlt:g<w.heap.size:=hf.lt (by simp [yB,As.gs,yV])
 refine hf.exchange hwr (by simp [yV]) (fun k hk=>?_) trivial ?_
 ·simp [yV] at hk
  subst hk
  exact ⟨Nat.lt_of_lt_of_le hlt hwr.size, .inl (by simp [yV])⟩
 ·refine ⟨es,cl,hh,hE.mono ?_,hS⟩
  intro k o hk
  unfold GV at*
  split at hk
  ·cases hk
  ·rename_i hn
   have hn':k∉(yV K E (some g) (some l')).gs++yB G:=by simpa [yB,As.gs,yV] using hn
   rw [if_neg hn']
   have hkg:k∉ [g]:=by simp [yB,As.gs,yV] at hn; simp; exact hn.1
   rw [hwr.block k (Array.getElem?_eq_some_iff.1 hk).1 hkg]
   exact hk
theorem St.RN {α β:Type} {K:oL α} {E:FQ β} {t kt e n cc:Nat} {i j:TI} {A B:Option _} {m:Option (List (α × List β))} {l:List (α × List β)} {x y z:Operand} (hl:mapM m=some l) (k:α) {v:List β} (hx:ev Γ x=some (.map A)) (hy:ev Γ y=some (K.v k)) (hz:ev Γ z=some (.slice B n cc)) (hn:n=v.length)
    (hD:Del F (.res (yV K E A m)) G) (hv:As.ro (Sl E B cc v)∈F)
    (hi:yK T.tt t=some i) (hdesc:i.desc= .map kt e) (hj:yK T.tt kt=some j) (hjd:j.desc=K.td)
    (c:St w0 nt Γ (.res (yV K E A (some (nX K.eq l k v)))::G) (wpList P ops Q rest)):St w0 nt Γ F (wpList P ops Q (⟨none, .mapUpdate t x y z,ty,pos,af,none⟩::rest)):=
  fun a w hs hdf ha hf hw=>wpList_plain O fun K' hK=>by
    unfold mapM at hl
    subst hl; subst hn
    have hf':=hf.front hD
    have hvz:JJ E B cc v (GV (yB (.res (yV K E A (some l))::G)) w):=hf'.ro (r:=Sl E B cc v) (hD.perm.mem_iff.1 hv)
    rcases yV.get (hf'.KJ (List.mem_cons_self ..)) with ⟨_,h⟩ | ⟨g,l',es,cl,rfl,h,ho,hE⟩
    · cases h
    injection h with h
    subst h
    obtain ⟨d1,hu1,hd1⟩:=T.ok.desc hi
    obtain ⟨d2,hu2,hd2⟩:=T.ok.desc hj
    have h1:=TD.of_map (hd1.trans hdesc)
    subst h1
    have h2:=kA false k w hu2 (hd2.trans hjd)
    have ho':w.heap[g]? =some (.map es cl):=ho
    have hst:=yV.Ql (hf'.KJ (List.mem_cons_self ..)) ho
    have hg:(getObj g).run P w= .ok (.map es cl) w:=jO ho'
    have go:∃ w',(execOp a.eval ⟨none, .mapUpdate t x y z,ty,pos,af,none⟩).run P w= .ok .skip w'∧sS [g] w w'∧Sat (.res (yV K E (some g) (some (nX K.eq l k v)))::G) w':=by
      rcases Qm K E (hd2.trans hjd) k _ l es.toList 0 hE with ⟨g1,g2,g3,_⟩ | ⟨i',b,e0,g1,g2,g3,g4,_,g6,_⟩
      · obtain ⟨w', hr, hwr, hh⟩ := Qo (P := P) ho' (.map (es.push ⟨K.v k, .slice B v.length cc, cl⟩) (cl + 1))
        refine ⟨w',?_,hwr,yV.turn hf' hwr hh ?_ (by rw [Array.toList_push]; exact hst.push _ _)⟩
        · simp [execOp,ha.eval hx,ha.eval hy,ha.eval hz,Instr.mapUpdate,run_underlying hu1,hg,h2,Instr.findKey,run_underlying hu2,g2,hr]
        · rw [g3, Array.toList_push]
          exact hE.snoc O ⟨B,cc,O,hvz⟩
      · have hmod : (es.modify i' fun e => { e with key := K.v k, val := .slice B v.length cc }).toList = es.toList.modify i' fun e => { e with key := K.v k, val := .slice B v.length cc } := Array.toList_modify
        obtain ⟨w',hr,hwr,hh⟩:=Qo (P:=P) ho' (.map (es.modify i' fun e=> { e with key:=K.v k,val:=.slice B v.length cc }) cl)
        refine ⟨w',?_,hwr,yV.turn hf' hwr hh ?_ (by rw [hmod]; exact hst.modify (f:=fun e=> { e with key:=K.v k,val:=.slice B v.length cc }) (fun _=>O) _)⟩
        · have he1 : es[i']? = some e0 := by simpa using g3
          simp only [Nat.zero_add] at g2
          simp [execOp,ha.eval hx,ha.eval hy,ha.eval hz,Instr.mapUpdate,run_underlying hu1,hg,h2,Instr.findKey,run_underlying hu2,g2,he1,Instr.keyThatStays,g4,hr]
        · rw [hmod]
          exact g6 v _ ⟨B,cc,O,hvz⟩
    obtain ⟨w',hrun,hwr,JX⟩:=go
    unfold Oper.wp
    rw [hrun]
    exact hK _ _ (c _ _ (by simpa [Act.put] using hs) hdf (ha.KI) JX (hw.trans hwr.toSame))
theorem St.QJ {α β:Type} {K:oL α} {E:FQ β} {t kt e:Nat} {ts:Array Nat} {i j:TI} {A:Option Nat} {m:Option (List (α × List β))} {x y:Operand} (k:α) (hx:ev Γ x=some (.map A)) (hy:ev Γ y=some (K.v k)) (hD:Del F (.res (yV K E A m)) G)
    (hts:ts[0]? =some t) (hi:yK T.tt t=some i) (hdesc:i.desc= .map kt e) (hj:yK T.tt kt=some j) (hjd:j.desc=K.td)
    (c:St w0 nt Γ (.res (yV K E A (m.map fun l=>TV K.eq l k))::G) (wpList P ops Q rest)):St w0 nt Γ F (wpList P ops Q (⟨none, .call { callee:=.builtin .delete,args:=#[x,y],argTypes:=ts },ty,pos,af,none⟩::rest)):=
  fun a w hs hdf ha hf hw=>wpList_plain O fun K' hK=>by
    have hf':=hf.front hD
    obtain ⟨d1,hu1,hd1⟩:=T.ok.desc hi
    obtain ⟨d2,hu2,hd2⟩:=T.ok.desc hj
    have h1:=TD.of_map (hd1.trans hdesc)
    subst h1
    have go:∃ w',(execOp a.eval ⟨none, .call { callee:=.builtin .delete,args:=#[x,y],argTypes:=ts },ty,pos,af,none⟩).run P w= .ok (.value (.tuple #[])) w'∧Same w w'∧Sat (.res (yV K E A (m.map fun l=>TV K.eq l k))::G) w':=by
      rcases yV.get (hf'.KJ (List.mem_cons_self ..)) with ⟨rfl,rfl⟩ | ⟨g,l',es,cl,rfl,rfl,ho,hE⟩
      · have h2 := kA true k w hu2 (hd2.trans hjd)
        refine ⟨w,?_,Same.refl w,hf'⟩
        simp [execOp,resolve,invoke,ha.eval hx,ha.eval hy,builtin,Builtin.delete_,hts,run_underlying hu1,h2]
      · have ho' : w.heap[g]? = some (.map es cl) := ho
        have hg:(getObj g).run P w= .ok (.map es cl) w:=jO ho'
        have h2:=kA es.isEmpty k w hu2 (hd2.trans hjd)
        have hst:=yV.Ql (hf'.KJ (List.mem_cons_self ..)) ho
        rcases Qm K E (hd2.trans hjd) k _ l' es.toList 0 hE with ⟨g1,g2,g3,g4⟩ | ⟨i',b,e0,g1,g2,g3,_,_,_,g7⟩
        · obtain ⟨w', hr, hwr, hh⟩ := Qo (P := P) ho' (.map es cl)
          refine ⟨w',?_,hwr.toSame,yV.turn hf' hwr hh (by show qO K E _ (TV K.eq l' k) _; rw [g4]; exact hE) hst⟩
          simp [execOp,resolve,invoke,ha.eval hx,ha.eval hy,builtin,Builtin.delete_,hts,run_underlying hu1,h2,hg,Instr.findKey,run_underlying hu2,g2,hr]
        · obtain ⟨w', hr, hwr, hh⟩ := Qo (P := P) ho' (.map (es.eraseIdxIfInBounds i') cl)
          have hi':i'<es.size:=by have:=(List.getElem?_eq_some_iff.1 g3).1; simpa using this
          have hel:(es.eraseIdxIfInBounds i').toList=es.toList.eraseIdx i':=by
            unfold Array.eraseIdxIfInBounds
            rw [dif_pos hi',Array.toList_eraseIdx]
          refine ⟨w',?_,hwr.toSame,yV.turn hf' hwr hh ?_ (by rw [hel]; exact hst.erase _)⟩
          · simp only [Nat.zero_add] at g2
            simp [execOp,resolve,invoke,ha.eval hx,ha.eval hy,builtin,Builtin.delete_,hts,run_underlying hu1,h2,hg,Instr.findKey,run_underlying hu2,g2,hr]
          · have : (es.eraseIdxIfInBounds i').toList = es.toList.eraseIdx i' := by
              unfold Array.eraseIdxIfInBounds
              rw [dif_pos hi',Array.toList_eraseIdx]
            rw [this]
            exact g7
    obtain ⟨w',hrun,hsame,JX⟩:=go
    unfold Oper.wp
    rw [hrun]
    exact hK _ _ (c _ _ (by simpa [Act.put] using hs) hdf ha.KI JX (hw.trans hsame))
theorem St.OX {α β:Type} {K:oL α} {E:FQ β} {t kt e:Nat} {ts:Array Nat} {i:TI} {A:Option Nat} {m:Option (List (α × List β))} {x:Operand} (hd:Nat.blt d nt=true) (hx:ev Γ x=some (.map A)) (hm:As.res (yV K E A m)∈F)
    (hts:ts[0]? =some t) (hi:yK T.tt t=some i) (hdesc:i.desc= .map kt e)
    (c:St w0 nt ((d, .int .i64 (((m.getD []).length:Nat):Int))::Γ) F (wpList P ops Q rest)):St w0 nt Γ F (wpList P ops Q (⟨some d, .call { callee:=.builtin .len,args:=#[x],argTypes:=ts },ty,pos,af,none⟩::rest)):=
  fun a w hs hdf ha hf hw=>wpList_plain O fun K' hK=>by
    obtain ⟨d1,hu1,hd1⟩:=T.ok.desc hi
    have h1:=TD.of_map (hd1.trans hdesc)
    subst h1
    have go:(execOp a.eval ⟨some d, .call { callee:=.builtin .len,args:=#[x],argTypes:=ts },ty,pos,af,none⟩).run P w= .ok (.value (.int .i64 (((m.getD []).length:Nat):Int))) w:=by
      rcases yV.get (hf.KJ hm) with ⟨rfl,rfl⟩ | ⟨g,l',es,cl,rfl,rfl,ho,hE⟩
      · simp [execOp,resolve,invoke,ha.eval hx,builtin,Builtin.len_,hts,run_underlying hu1,goInt]
      · have ho' : w.heap[g]? = some (.map es cl) := ho
        have hg:(getObj g).run P w= .ok (.map es cl) w:=jO ho'
        have:=hE.len
        simp [execOp,resolve,invoke,ha.eval hx,builtin,Builtin.len_,hts,run_underlying hu1,hg,goInt]
        simpa using congrArg Int.ofNat this
    unfold Oper.wp
    rw [go]
    exact hK _ _ (c _ w (by simp [Act.put,hs]) hdf (ha.put (hs▸Nat.le_of_ble_eq_true hd)) hf hw)
end
theorem yV.new {α β:Type} {K:oL α} {E:FQ β} {g:Nat} {l:List (α × List β)} {es:Array MapEntry} {cl:Nat} {F:List As} {w:World} (hf:Sat (.res (yV K E (some g) (some l))::F) w) (ho:w.heap[g]? =some (.map es cl))
  (hE:qO K E (GV (yB (.res (yV K E (some g) (some l))::F)) w) l es.toList) (hS:PX es.toList cl):Sat (.res (yV K E (some w.heap.size) (some l)):: .res (yV K E (some g) (some l))::F) (w.alloc (.map es cl)):=by
 refine hf.GH (Ext.alloc w _) _ (by simp [yV]) (fun k hk=>by simp [yV] at hk; subst hk; simp) trivial ⟨es,cl,nA w _,hE.mono ?_,hS⟩
 intro k o hk
 unfold GV at*
 split at hk
 ·cases hk
 ·rename_i hn
  have hlt:=(Array.getElem?_eq_some_iff.1 hk).1
  have hn2:k∉(yV K E (some w.heap.size) (some l)).gs++yB (.res (yV K E (some g) (some l))::F):=by
   intro hm
   rcases List.mem_append.1 hm with hm | hm
   ·simp [yV] at hm; omega
   ·exact hn hm
  rw [if_neg hn2,(Ext.alloc w _).block k hlt]
  exact hk
theorem zOe {P:Program} {ρ:Shelf.Ren} (L:SlLaysW.n5 P ρ) {α β:Type} (K:oL α) (E:FQ β) (A:Option Nat) (m:Option (List (α × List β))):
  BA P (ρ.f 5) [.map A] [.res (yV K E A m)] (fun v F'=>∃ B,v= .map B∧F'= [.res (yV K E B m), .res (yV K E A m)]):=by
 intro w R JX
 have hf:Sat (.res (yV K E A m)::R) w:=JX
 rcases yV.get (hf.KJ (List.mem_cons_self ..)) with ⟨rfl,rfl⟩ | ⟨g,l,es,cl,rfl,rfl,ho,hE⟩
 ·refine (AnyW.maps_Clone_nil L w).mono fun e w' ⟨he,hw⟩=>?_
  subst he; subst hw
  exact ⟨_,_,O,⟨none,O,O⟩,hf.TW K E,Same.refl _⟩
 ·have ho':w.heap[g]? =some (.map es cl):=ho
  refine (AnyW.maps_Clone L g es cl w ho').mono fun e w' ⟨he,hw⟩=>?_
  subst he; subst hw
  exact ⟨_,_,O,⟨some w.heap.size,O,O⟩,yV.new hf ho' hE (yV.Ql (hf.KJ (List.mem_cons_self ..)) ho),(Ext.alloc w _).toSame⟩
def zQv:Shelf.Ren:=⟨fun x=>if x=5 then 221 else if x=7 then 254 else x,fun x=>if x=3 then 22 else if x=4 then 4 else if x=20 then 20 else if x=23 then 133 else if x=25 then 5 else x,fun x=>x⟩
theorem zOk:SlLaysW.n5 Tryz.prog zQv where
 mixed:=by kernel_rfl
 f5:=⟨Tryz.f221.name,by kernel_rfl,by kernel_rfl⟩
 f7:=by kernel_rfl
 t4:=by kernel_rfl
 a4:=fun _=>O
 z4:=fun _=>O
 v4:=fun _=>O
 t20:=by kernel_rfl
 a20:=fun _=>O
 z20:=fun _=>O
 v20:=fun _=>O
 t23:=by kernel_rfl
 a23:=fun _=>O
 z23:=fun _=>O
 v23:=fun _=>O
def Zg (m:Option (List (Int × List Int))):Option (Option (List (Int × List Int))):=some m
theorem zKf {A:Option Nat} {m r:Option (List (Int × List Int))} (h:Zg m=some r):
  BA Tryz.prog 221 [.map A] [.res (yV (yH .u8) (CY AQ) A m)] (fun v F'=>∃ B,v= .map B∧F'= [.res (yV (yH .u8) (CY AQ) A m), .res (yV (yH .u8) (CY AQ) B r)]):=by
 injection h with h
 subst h
 intro w R hs
 exact (zOe zOk (yH .u8) (CY AQ) A m w R hs).mono fun e w' ⟨v,F',h1,⟨B,h2,h3⟩,h4,h5⟩=>by
  subst h3
  exact ⟨v,_,h1,⟨B,h2,O⟩,h4.perm (List.Perm.swap ..),h5⟩
def Dt {α:Type} (xs:List α):Option Unit:=match xs with
 | []=>none
 | _::_=>some ()
theorem St.Zh {w0:World} {nt:Nat} {Γ:Env} {F:List As} {X:Act→World→Prop} {α:Type} {E:Enc α} {e c:Nat} {A:Option Addr} {xs:List α} {u:Unit} (hm:As.res (zI E e A c xs)∈F) (hx:Dt xs=some u) (k:∀ g:Nat,A=some ⟨g,0,none⟩→St w0 nt Γ F X):St w0 nt Γ F X:=by
 by_cases hA:∃ g:Nat,A=some ⟨g,0,none⟩
 ·obtain ⟨g,hg⟩:=hA
  exact k g hg
 ·refine St.fact (φ:=False) (fun w hf=>?_) fun h=>h.elim
  have h:=Sat.res hf hm
  rcases h.2.2 with h3 | ⟨g,cur,fr,_,h4,_⟩
  ·cases xs with
   | nil=>cases hx
   | cons x xs=>exact absurd h3.1 (by simp)
  ·exact hA ⟨g,h4⟩
theorem St.roS {w0:World} {nt:Nat} {Γ:Env} {F:List As} {X:Act→World→Prop} {α:Type} {E:Enc α} {c:Nat} {A:Option Addr} {xs:List α} {u:Unit} (hm:As.ro (AV E A c xs)∈F) (hx:Dt xs=some u) (k:∀ ad,A=some ad→St w0 nt Γ F X):St w0 nt Γ F X:=by
 cases A with
 | some ad=>exact k ad O
 | none=>
  refine St.fact (φ:=False) (fun w hf=>?_) fun h=>h.elim
  have h:=(Sat.ro hf hm).2.2.1 O
  subst h
  cases hx
section
variable {P:Program} [T:FP P] {w0:World} {nt:Nat} {Γ Γ':Env} {F F' G R:List As} {Q:Exit→Act→World→Prop} {ops:Array Oper} {rest:List Oper}
variable {d:Nat} {op:Op} {ty:Nat} {pos:String} {af:Array Edge}
theorem Sat.shrink {α:Type} {E:Enc α} {e c:Nat} {A:Option Addr} {xs ys:List α} {w:World} (h:Sat (.res (zI E e A c (xs++ys))::F) w):Sat (.res (zI E e A c xs)::F) w:=by
 have hO:nV E.sz e A (xs++ys).length c ((xs++ys).map E.enc) (hp w):=h.res (r:=zI E e A c (xs++ys)) (List.mem_cons_self ..)
 refine Sat.exchange (r:=zI E e A c (xs++ys)) h (sS.MR (Ext.refl w)) (rN _ _) (fun k hk=>⟨h.lt (jE.2 ⟨_,List.mem_cons_self ..,hk⟩), .inl hk⟩) ?_
 refine ⟨by simp,vk E.len E.one xs,?_⟩
 rcases hO.2.2 with ⟨h0,hc⟩ | ⟨g,cur,fr,hpos,hA,hg,hsz,hn,hc,ht,hfr⟩
 ·simp at h0
  exact .inl ⟨by simp [h0.1],hc⟩
 ·refine .inr ⟨g,cur,fr,hpos,hA,hg,hsz,by simp at hn; omega,hc,?_,hfr⟩
  have hl:(xs.map E.enc).flatten.length=xs.length*E.sz:=zEr E xs
  have:(cur.toList.take ((xs++ys).length*E.sz)).take (xs.length*E.sz)=(((xs++ys).map E.enc).flatten).take (xs.length*E.sz):=by rw [ht]
  rw [List.take_take,Nat.min_eq_left (by simp [Nat.add_mul])] at this
  rw [this,List.map_append,List.flatten_append,←hl,List.take_left]
theorem St.JK {α:Type} {E:Enc α} {t t2 e m c n:Nat} {i i2 j:TI} {s x:Operand} {A:Option Addr} {xv:Value} {b:Nat} {xs ys zs:List α} (hz:Go.Proofs.YtplchdlgdjcojaaGreatDoor.app b xs ys=some zs) (hd:Nat.blt d nt=true) (hs:ev Γ s=some (.slice A n c)) (hx:ev Γ x=some xv)
  (hD:Del F (.res (zI E e A c xs)) G) (hlen:n=xs.length) (hi:yK T.tt t=some i) (hdesc:i.desc= .slice e) (hj:yK T.tt e=some j) (hsz:j.size=E.sz) (hby:j.bytes=b) (hzs:Nat.beq (zc j.zero).length E.sz=true)
  (hm:m=ys.length) (hsrc:∀ w,Sat F w→aR P E.sz xv m (ys.map E.enc).flatten w) (hi2:yK T.tt t2=some i2) (hd2:au i2.desc=true)
  (k1:St w0 nt ((d, .slice A zs.length c)::Γ) (.res (zI E e A c zs)::G) (wpList P ops Q rest))
  (k2:∀ A' c',St w0 nt ((d, .slice A' zs.length c')::Γ) (.res (zI E e A' c' zs):: .res (zI E e A c xs)::G) (wpList P ops Q rest)):
  St w0 nt Γ F (wpList P ops Q (⟨some d, .call { callee:=.builtin .append,args:=#[s,x],argTypes:=#[t,t2] },ty,pos,af,none⟩::rest)):=by
 obtain ⟨rfl,hb2,hb3⟩:=Pn hz
 subst hlen; subst hm; subst hby
 intro a w hs' hdf ha hf hw
 refine wpList_plain O fun K hK=>?_
 obtain ⟨dd,hu,hdd⟩:=T.ok.desc hi
 obtain ⟨d2,hu2,ax⟩:=T.ok.desc hi2
 have KX:=(T.ok.get hj).2.1
 cases hi':P.info? e with
 | none=>simp [hi'] at KX
 | some info=>
  simp [hi'] at KX
  have hzz:j.zero.cells.size=E.sz:=by rw [←gK]; simpa using Nat.eq_of_beq_eq_true hzs
  have hf':=hf.front hD
  have hO:nV E.sz e A xs.length c (xs.map E.enc) (hp w):=hf.MN hD
  obtain ⟨A',c',w',hr,hwr,hown,hbl,hcase⟩:=zEn (P:=P) (ty:=ty) (TD.of_slice (hdd.trans hdesc)▸hu) hi' (KX.1.trans hsz) KX.2.1 KX.2.2 hzz hO rfl (hsrc w hf) (by simpa [maxLen] using hb3) hb2 (ys.map E.enc) O (by simp) (vk E.len E.one ys)
  unfold Oper.wp
  have hr2:(execOp a.eval ⟨some d, .call { callee:=.builtin .append,args:=#[s,x],argTypes:=#[t,t2] },ty,pos,af,none⟩).run P w= .ok (.value (.slice A' (xs.length+ys.length) c')) w':=by
   simp [execOp,resolve,invoke,builtin,ha.eval hs,ha.eval hx,zHE (P:=P) (TD.of_slice (hdd.trans hdesc)▸hu) hu2 (ax▸hd2),hr]
  rw [hr2]
  have hown':(zI E e A' c' (xs++ys)).p (hp w'):=by
   show nV E.sz e A' (xs++ys).length c' ((xs++ys).map E.enc) (hp w')
   simpa using hown
  have hl:(Value.slice A' (xs.length+ys.length) c')= .slice A' (xs++ys).length c':=by simp
  rw [hl]
  rcases hcase with ⟨rfl,rfl⟩ | ⟨hext,hnew⟩
  ·exact hK _ _ (k1 _ _ (by simp [Act.put,hs']) hdf (ha.put (hs'▸Nat.le_of_ble_eq_true hd)) (hf'.exchange hwr (rN _ _) hbl hown') (hw.trans hwr.toSame))
  ·exact hK _ _ (k2 A' c' _ _ (by simp [Act.put,hs']) hdf (ha.put (hs'▸Nat.le_of_ble_eq_true hd)) (hf'.GH hext _ (rN _ _) (fun k hk=>⟨hnew k hk,(hbl k hk).1⟩) hown') (hw.trans hwr.toSame))
end
section
open Go.ChangeMaps (setBlock)
def tZ {α β:Type} (K:oL α) (E:FQ β) (A:Option Nat) (m:Option (List (α × List β))) (it:Nat) (done:List α):PZ where
 gs:=it::A.toList
 p _:=True
 loc _ _ _ h:=h
 q h z:=match A,m with
  | none,none=>h it=some (.mapIter none 0 #[] 0)∧done= []
  | some g,some m=>∃ (es:Array MapEntry) (cl:Nat) (ds:List MapEntry),h g=some (.map es cl)∧qO K E z m es.toList∧PX es.toList cl∧h it=some (.mapIter (some g) cl (ds.map (·.born)).toArray cl)∧(∀ x∈ds,x∈es.toList)∧(ds.map (·.born)).Nodup∧done.map K.v=ds.map (·.key)
  | _,_=>False
 QA a a' z z' hm hz h:=by
  cases A with
  | none=>
   cases m with
   | none=>exact ⟨(hm it (by simp)).symm.trans h.1,h.2⟩
   | some x=>exact h
  | some g=>
   cases m with
   | none=>exact h
   | some x=>
    obtain ⟨es,cl,ds,h1,h2,h3,h4,h5⟩:=h
    exact ⟨es,cl,ds,(hm g (by simp)).symm.trans h1,h2.mono hz,h3,(hm it (by simp)).symm.trans h4,h5⟩
theorem tZ.get {α β:Type} {K:oL α} {E:FQ β} {A:Option Nat} {m:Option (List (α × List β))} {it:Nat} {done:List α} {h z:Hp} (hq:(tZ K E A m it done).q h z):
  (A=none∧m=none∧h it=some (.mapIter none 0 #[] 0)∧done= [])∨∃ (g:Nat) (l:List (α × List β)) (es:Array MapEntry) (cl:Nat) (ds:List MapEntry),A=some g∧m=some l∧h g=some (.map es cl)∧qO K E z l es.toList∧PX es.toList cl∧h it=some (.mapIter (some g) cl (ds.map (·.born)).toArray cl)∧(∀ x∈ds,x∈es.toList)∧(ds.map (·.born)).Nodup∧done.map K.v=ds.map (·.key):=by
 cases A with
 | none=>
  cases m with
  | none=>exact .inl ⟨O,O,hq⟩
  | some x=>exact False.elim hq
 | some g=>
  cases m with
  | none=>exact False.elim hq
  | some x=>
   obtain ⟨es,cl,ds,h1⟩:=hq
   exact .inr ⟨g,x,es,cl,ds,O,O,h1⟩
theorem qO.keys {α β:Type} {K:oL α} {E:FQ β} {z:Hp}:∀ {m:List (α × List β)} {es:List MapEntry},qO K E z m es→es.map (·.key)=m.map fun x=>K.v x.1
 | [], [],_=>rfl
 | x::m,e::es,h=>by simp only [List.map_cons]; rw [h.1,qO.keys h.2.2]
 | [],_::_,h=>h.elim
 | _::_, [],h=>h.elim
theorem qO.Du {α β:Type} {K:oL α} {E:FQ β} {z:Hp} {e:MapEntry}:∀ {m:List (α × List β)} {es:List MapEntry},qO K E z m es→e∈es→∃ k,e.key=K.v k∧∃ v,(k,v)∈m
 | x::m,y::es,h,he=>by
  rcases List.mem_cons.1 he with rfl | he
  ·exact ⟨x.1,h.1,x.2,by simp⟩
  ·obtain ⟨k,h1,v,h2⟩:=qO.Du h.2.2 he
   exact ⟨k,h1,v,by simp [h2]⟩
 | [], [],_,he=>by cases he
 | [],_::_,h,_=>h.elim
 | _::_, [],h,_=>h.elim
theorem Zi {es:List MapEntry} (hn:(es.map (·.born)).Nodup) {x y:MapEntry} (hx:x∈es) (hy:y∈es) (h:x.born=y.born):x=y:=by
 induction es with
 | nil=>cases hx
 | cons e r ih=>
  rw [List.map_cons] at hn
  have h2:=List.nodup_cons.1 hn
  rcases List.mem_cons.1 hx with hx1 | hx1
  ·rcases List.mem_cons.1 hy with hy1 | hy1
   ·rw [hx1,hy1]
   ·exact absurd (show e.born∈r.map (·.born) from List.mem_map.2 ⟨y,hy1,by rw [←hx1,h]⟩) h2.1
  ·rcases List.mem_cons.1 hy with hy1 | hy1
   ·exact absurd (show e.born∈r.map (·.born) from List.mem_map.2 ⟨x,hx1,by rw [←hy1,h]⟩) h2.1
   ·exact ih h2.2 hx1 hy1
theorem zHN:∀ {l m:List Nat},l.Nodup→(∀ x∈l,x∈m)→l.length≤m.length
 | [],_,_,_=>Nat.zero_le _
 | x::l,m,h,hs=>by
  have h2:=List.nodup_cons.1 h
  have hx:=hs x (by simp)
  have:=zHN (m:=m.erase x) h2.2 fun y hy=>(List.mem_erase_of_ne (a:=y) (b:=x) (fun e=>h2.1 (by rw [←e]; exact hy))).2 (hs y (by simp [hy]))
  rw [List.length_erase_of_mem hx] at this
  have:=List.length_pos_of_mem hx
  simp only [List.length_cons]
  omega
theorem zCG {α β:Type} {f:α→β} {l:List α} (h:(l.map f).Nodup):l.Nodup:=by
 induction l with
 | nil=>exact List.nodup_nil
 | cons x r ih=>
  rw [List.map_cons] at h
  have h2:=List.nodup_cons.1 h
  exact List.nodup_cons.2 ⟨fun hx=>h2.1 (List.mem_map_of_mem hx),ih h2.2⟩
section
variable {P:Program} [T:FP P] {w0:World} {nt:Nat} {Γ Γ':Env} {F F' G R:List As} {Q:Exit→Act→World→Prop} {ops:Array Oper} {rest:List Oper}
variable {d:Nat} {op:Op} {ty:Nat} {pos:String} {af:Array Edge} {X:List Oper→Act→World→Prop} {Post:Value→List As→Prop}
theorem St.gy {α β:Type} {K:oL α} {E:FQ β} {t kt e:Nat} {i:TI} {A:Option Nat} {m:Option (List (α × List β))} {x:Operand} (hd:Nat.blt d nt=true) (hx:ev Γ x=some (.map A)) (hD:Del F (.res (yV K E A m)) G)
    (hi:yK T.tt t=some i) (hdesc:i.desc= .map kt e)
    (c:∀ it,St w0 nt ((d, .pointer (some ⟨it,0,none⟩))::Γ) (.res (tZ K E A m it [])::G) (wpList P ops Q rest)):St w0 nt Γ F (wpList P ops Q (⟨some d, .range t x,ty,pos,af,none⟩::rest)):=
  fun a w hs hdf ha hf hw=>wpList_plain O fun K' hK=>by
    have hf':=hf.front hD
    obtain ⟨d1,hu1,hd1⟩:=T.ok.desc hi
    have h1:=TD.of_map (hd1.trans hdesc)
    subst h1
    have go:∃ o:Obj,(execOp a.eval ⟨some d, .range t x,ty,pos,af,none⟩).run P w= .ok (.value (.pointer (some ⟨w.heap.size,0,none⟩))) (w.alloc o)∧Sat (.res (tZ K E A m w.heap.size [])::G) (w.alloc o):=by
      have hb:=hf'.nodup
      rcases yV.get (hf'.KJ (List.mem_cons_self ..)) with ⟨rfl,rfl⟩ | ⟨g,l,es,cl,rfl,rfl,ho,hE⟩
      · refine ⟨.mapIter none 0 #[] 0, ?_, ?_⟩
        · simp [execOp,ha.eval hx,run_range_nilMap w t kt e hu1]
        · refine hf'.exchange (r' := tZ K E none none w.heap.size []) ⟨(Ext.alloc w _).toSame, fun k hk _ => (Ext.alloc w _).block k hk⟩ (by simp [tZ]) (fun k hk => ?_) trivial ⟨nA w _, O⟩
          simp [tZ] at hk
          subst hk
          exact ⟨by simp, .inr (Nat.le_refl _)⟩
      · have ho' : w.heap[g]? = some (.map es cl) := ho
        have hlt:g<w.heap.size:=hf'.lt (by simp [yB,As.gs,yV])
        have hst:=yV.Ql (hf'.KJ (List.mem_cons_self ..)) ho
        refine ⟨.mapIter (some g) cl #[] cl,?_,?_⟩
        · simp [execOp,ha.eval hx,run_range_map w t kt e g es cl hu1 ho']
        · refine hf'.exchange (r' := tZ K E (some g) (some l) w.heap.size []) ⟨(Ext.alloc w _).toSame, fun k hk _ => (Ext.alloc w _).block k hk⟩ (by simp [tZ]; omega) (fun k hk => ?_) trivial ?_
          · simp [tZ] at hk
            rcases hk with rfl | rfl
            · exact ⟨by simp, .inr (Nat.le_refl _)⟩
            · exact ⟨by simp; omega, .inl (by simp [yV])⟩
          · refine ⟨es, cl, [], ((Ext.alloc w _).block g hlt).trans ho', hE.mono ?_, hst, nA w _, (fun x hx => by cases hx), List.nodup_nil, rfl⟩
            intro k o hk
            unfold GV at*
            split at hk
            · cases hk
            · rename_i hn
              have hlt2:=(Array.getElem?_eq_some_iff.1 hk).1
              rw [if_neg (fun hm=>by
                rcases List.mem_append.1 hm with hm | hm
                · simp [tZ] at hm
                  rcases hm with rfl | rfl
                  · omega
                  · exact hn (by simp [yB,As.gs,yV])
                · exact hn (by simp [yB,hm])),(Ext.alloc w _).block k hlt2]
              exact hk
    obtain ⟨o,hrun,JX⟩:=go
    unfold Oper.wp
    rw [hrun]
    exact hK _ _ (c _ _ _ (by simp [Act.put,hs]) hdf (ha.put (hs▸Nat.le_of_ble_eq_true hd)) JX (hw.trans (Ext.alloc w _).toSame))
def qK {α β:Type} (m:Option (List (α × List β))):List α:=(m.getD []).map (·.1)
theorem St.Dv {α β:Type} {K:oL α} {E:FQ β} {A:Option Nat} {m:Option (List (α × List β))} {x:Operand} {it:Nat} {done:List α} {G:List As} (hd:Nat.blt d nt=true) (hx:ev Γ x=some (.pointer (some ⟨it,0,none⟩))) (hD:Del F (.res (tZ K E A m it done)) G)
    (c0:(done.map K.v).Perm ((qK m).map K.v)→St w0 nt ((d, .tuple #[.bool false])::Γ) (.res (tZ K E A m it done)::G) (wpList P ops Q rest))
    (c1:∀ k v,done.length<(qK m).length→St w0 nt ((d, .tuple #[.bool true,K.v k,v])::Γ) (.res (tZ K E A m it (done++ [k]))::G) (wpList P ops Q rest)):
    St w0 nt Γ F (wpList P ops Q (⟨some d, .next x false,ty,pos,af,none⟩::rest)):=
  fun a w hs hdf ha hf hw=>wpList_plain O fun K' hK=>by
    have hf':=hf.front hD
    unfold Oper.wp
    rcases tZ.get (hf'.KJ (List.mem_cons_self ..)) with ⟨rfl,rfl,hit,rfl⟩ | ⟨g,l,es,cl,ds,rfl,rfl,ho,hE,hst,hit,hds,hdn,hk⟩
    · have hit' : w.heap[it]? = some (.mapIter none 0 #[] 0) := hit
      have hr:(execOp a.eval ⟨some d, .next x false,ty,pos,af,none⟩).run P w= .ok (.value (.tuple #[.bool false])) w:=by
        simp [execOp,ha.eval hx,Instr.next,getObj,Sem.run,hit',Result.andThen]
      rw [hr]
      exact hK _ _ (c0 (by simp [qK]) _ w (by simp [Act.put,hs]) hdf (ha.put (hs▸Nat.le_of_ble_eq_true hd)) hf' hw)
    · have hit' : w.heap[it]? = some (.mapIter (some g) cl (ds.map (·.born)).toArray cl) := hit
      have ho':w.heap[g]? =some (.map es cl):=ho
      have hne:it≠g:=fun e=>by rw [e,ho'] at hit'; cases hit'
      have hlt:it<w.heap.size:=hf'.lt (by simp [yB,As.gs,tZ])
      have Zj:g<w.heap.size:=hf'.lt (by simp [yB,As.gs,tZ])
      have hdp:ds.Nodup:=zCG hdn
      have hep:es.toList.Nodup:=zCG hst.2
      have hks:(qK (some l)).map K.v=es.toList.map (·.key):=by
        rw [hE.keys]; simp [qK,List.map_map]
      rcases run_next_at (P:=P) w ty it g cl cl (ds.map (·.born)).toArray es cl hit' ho' hst.1 (Nat.le_refl _) with ⟨h0,hrun⟩ | ⟨e,he,w1,hw1,hrun⟩
      · have hr : (execOp a.eval ⟨some d, .next x false, ty, pos, af, none⟩).run P w = .ok (.value (.tuple #[.bool false])) w := by
          simp [execOp,ha.eval hx,hrun]
        rw [hr]
        refine hK _ _ (c0 ?_ _ w (by simp [Act.put,hs]) hdf (ha.put (hs▸Nat.le_of_ble_eq_true hd)) hf' hw)
        rw [hk,hks]
        refine List.Perm.map _ ((List.perm_ext_iff_of_nodup hdp hep).2 fun y=>⟨hds y,fun hy=>?_⟩)
        have:=all_seen es _ h0 y hy
        simp at this
        obtain ⟨z,hz,hzb⟩:=this
        rw [←Zi hst.2 (hds z hz) hy hzb]
        exact hz
      · obtain ⟨hem, hes⟩ := mem_left he
        obtain ⟨k,hek,v0,hkv⟩:=hE.Du hem
        have hr:(execOp a.eval ⟨some d, .next x false,ty,pos,af,none⟩).run P w= .ok (.value (.tuple #[.bool true,K.v k,e.val])) (setBlock w1 it (.mapIter (some g) cl ((ds.map (·.born)).toArray.push e.born) cl)):=by
          simp [execOp,ha.eval hx,hrun,hek]
        rw [hr]
        have hnot:e∉ds:=fun hed=>by
          have:(ds.map (·.born)).toArray.contains e.born=true:=by simp; exact ⟨e,hed,O⟩
          rw [this] at hes; cases hes
        have hlen:done.length<(qK (some l)).length:=by
          have e1:done.length=ds.length:=by have:=congrArg List.length hk; simpa using this
          have e2:(qK (some l)).length=es.toList.length:=by have:=congrArg List.length hks; simpa using this
          have hnb:e.born∉ds.map (·.born):=fun h=>by
            obtain ⟨y,hy,hyb⟩:=List.mem_map.1 h
            exact hnot (Zi hst.2 (hds y hy) hem hyb▸hy)
          have:=zHN (l:=e.born::ds.map (·.born)) (m:=es.toList.map (·.born)) (List.nodup_cons.2 ⟨hnb,hdn⟩) fun y hy=>by
            rcases List.mem_cons.1 hy with rfl | hy
            · exact List.mem_map_of_mem hem
            · obtain ⟨z, hz, rfl⟩ := List.mem_map.1 hy
              exact List.mem_map_of_mem (hds z hz)
          simp only [List.length_cons,List.length_map] at this
          omega
        have hsz:w1.heap=w.heap:=by rcases hw1 with rfl | rfl <;> rfl
        have hext:sS [it] w (setBlock w1 it (.mapIter (some g) cl ((ds.map (·.born)).toArray.push e.born) cl)):=by
          refine ⟨?_,fun i hi hn=>?_⟩
          · rcases hw1 with rfl | rfl
            · exact ⟨O,O,O,by simp [setBlock]⟩
            · exact ⟨O,O,O,by show w.heap.size≤(w.heap.setIfInBounds it _).size; simp⟩
          · simp only [List.mem_singleton] at hn
            show (w1.heap.setIfInBounds it _)[i]? =w.heap[i]?
            rw [hsz,Array.getElem?_setIfInBounds_ne (fun h=>hn h.symm)]
        have hwr:sS (tZ K E (some g) (some l) it done).gs w (setBlock w1 it (.mapIter (some g) cl ((ds.map (·.born)).toArray.push e.born) cl)):=⟨hext.toSame,fun i hi hn=>hext.block i hi (fun hm=>hn (by simp only [List.mem_singleton] at hm; subst hm; simp [tZ]))⟩
        refine hK _ _ (c1 k e.val hlen _ _ (by simp [Act.put,hs]) hdf (ha.put (hs▸Nat.le_of_ble_eq_true hd)) ?_ (hw.trans hext.toSame))
        refine hf'.exchange (r':=tZ K E (some g) (some l) it (done++ [k])) hwr (by simp [tZ]; exact hne) (fun i hi=>?_) trivial ?_
        · exact ⟨Nat.lt_of_lt_of_le (by simp [tZ] at hi; rcases hi with rfl | rfl <;> assumption) hext.size, .inl hi⟩
        · refine ⟨es, cl, ds ++ [e], (hext.block g Zj (by simp; exact fun h => hne h.symm)).trans ho', hE.mono ?_, hst, ?_, fun y hy => ?_, ?_, ?_⟩
          · intro i o uz
            unfold GV at*
            split at uz
            · cases uz
            · rename_i hn
              have hlt2:=(Array.getElem?_eq_some_iff.1 uz).1
              rw [if_neg (fun hm=>hn (by simpa [yB,As.gs,tZ] using hm)),hext.block i hlt2 (fun hm=>hn (by simp only [List.mem_singleton] at hm; subst hm; simp [yB,As.gs,tZ]))]
              exact uz
          · show (w1.heap.setIfInBounds it _)[it]? = _
            rw [hsz]
            simp [hlt]
          · rcases List.mem_append.1 hy with hy | hy
            · exact hds y hy
            · simp only [List.mem_singleton] at hy; subst hy; exact hem
          · rw [List.map_append]
            refine List.nodup_append.2 ⟨hdn,by simp,fun p hp q hq=>?_⟩
            simp only [List.map_cons,List.map_nil,List.mem_singleton] at hq
            subst hq
            intro h
            subst h
            obtain ⟨y,hy,hyb⟩:=List.mem_map.1 hp
            exact hnot (Zi hst.2 (hds y hy) hem hyb▸hy)
          · rw [List.map_append,List.map_append,hk,List.map_cons,List.map_nil,List.map_cons,List.map_nil,hek]
theorem St.ig {α β:Type} {K:oL α} {E:FQ β} {A:Option Nat} {m:Option (List (α × List β))} {x:Operand} {it:Nat} {done:List α} {k:α} (hd:Nat.blt d nt=true) (hx:ev Γ x=some (.pointer (some ⟨it,0,none⟩))) (hm:As.res (tZ K E A m it (done++ [k]))∈F)
    (c:∀ v,St w0 nt ((d, .tuple #[K.v k,v])::Γ) F (wpList P ops Q rest)):
    St w0 nt Γ F (wpList P ops Q (⟨some d, .entry x,ty,pos,af,none⟩::rest)):=
  fun a w hs hdf ha hf hw=>wpList_plain O fun K' hK=>by
    unfold Oper.wp
    rcases tZ.get (hf.KJ hm) with ⟨rfl,rfl,hit,h⟩ | ⟨g,l,es,cl,ds,rfl,rfl,ho,hE,hst,hit,hds,hdn,hk⟩
    · simp at h
    · have hit' : w.heap[it]? = some (.mapIter (some g) cl (ds.map (·.born)).toArray cl) := hit
      have ho':w.heap[g]? =some (.map es cl):=ho
      have hsp:∃ ds' e,ds=ds'++ [e]∧e.key=K.v k:=by
        rcases List.eq_nil_or_concat ds with rfl | ⟨ds',e,rfl⟩
        · simp at hk
        · refine ⟨ds', e, by simp, ?_⟩
          simp only [List.map_append,List.map_cons,List.map_nil,List.concat_eq_append] at hk
          exact (List.append_inj' hk O).2 |> fun h=>by simpa using h.symm
      obtain ⟨ds',e,rfl,hek⟩:=hsp
      have hit2:w.heap[it]? =some (.mapIter (some g) cl ((ds'.map (·.born)).toArray.push e.born) cl):=by
        rw [hit']; simp
      have hr:(execOp a.eval ⟨some d, .entry x,ty,pos,af,none⟩).run P w= .ok (.value (.tuple #[K.v k,e.val])) w:=by
        have:=run_entry_at (P:=P) w it g cl (ds'.map (·.born)).toArray es cl e hit2 ho' (hds e (by simp)) hst.2
        simp [execOp,ha.eval hx,this,hek]
      rw [hr]
      exact hK _ _ (c _ _ w (by simp [Act.put,hs]) hdf (ha.put (hs▸Nat.le_of_ble_eq_true hd)) hf hw)
theorem Sat.itV {α β:Type} {K:oL α} {E:FQ β} {A:Option Nat} {m:Option (List (α × List β))} {it:Nat} {done:List α} {F:List As} {w:World} (h:Sat (.res (tZ K E A m it done)::F) w):Sat (.res (yV K E A m)::F) w:=by
 refine h.exchange (r':=yV K E A m) ⟨Same.refl w,fun _ _ _=>O⟩ (by cases A <;> simp [yV]) (fun k hk=>⟨h.lt ?_, .inl ?_⟩) trivial ?_
 ·simp only [yV] at hk
  simp [yB,As.gs,tZ]
  cases A with
  | none=>simp at hk
  | some g=>simp at hk; subst hk; simp
 ·simp only [yV] at hk
  simp only [tZ]
  exact List.mem_cons_of_mem _ hk
 ·rcases tZ.get (h.KJ (List.mem_cons_self ..)) with ⟨rfl,rfl,_⟩ | ⟨g,l,es,cl,ds,rfl,rfl,ho,hE,hst,_⟩
  ·trivial
  ·refine ⟨es,cl,ho,hE.mono (cX w fun k hk=>?_),hst⟩
   rcases List.mem_append.1 hk with hk | hk
   ·simp [yV] at hk; subst hk; simp [yB,As.gs,tZ]
   ·simp [yB,hk]
end
end
def WR:Result Next→Prop
 | .ok (.value _) _=>True
 | .ok .skip _=>True
 | .halt _ _=>True
 | _=>False
def hZ (o:Oper):Prop:=(o.guard=none∧∀ c,o.op≠.defer c)∧∀ (P:Program) (ev:Operand→Value) (w:World),WR ((execOp ev o).run P w)
theorem zMW {P:Program} {w:World} (x:Sem Value):WR ((do pure (Next.value (←x)):Sem Next).run P w):=by
 rw [Sem.run_bind]
 cases x.run P w with
 | ok v w'=>simp [Result.andThen,WR]
 | halt h w'=>simp [Result.andThen,WR]
theorem zRC {P:Program} {w:World} (x:Sem Unit):WR ((do x; pure Next.skip:Sem Next).run P w):=by
 rw [Sem.run_bind]
 cases x.run P w with
 | ok v w'=>simp [Result.andThen,WR]
 | halt h w'=>simp [Result.andThen,WR]
theorem zMc {d ty pos af x}:hZ ⟨some d, .move x,ty,pos,af,none⟩:=⟨⟨O,fun c h=>by cases h⟩,fun P ev w=>by simp [execOp,WR]⟩
theorem zCw {d ty pos af x}:hZ ⟨some d, .assign x,ty,pos,af,none⟩:=⟨⟨O,fun c h=>by cases h⟩,fun P ev w=>by simp [execOp,WR]⟩
theorem zGF {d ty pos af t x}:hZ ⟨some d, .load t x,ty,pos,af,none⟩:=⟨⟨O,fun c h=>by cases h⟩,fun P ev w=>by unfold execOp; exact zMW _⟩
theorem zJY {d ty pos af t n ps}:hZ ⟨some d, .buildSlice t n ps,ty,pos,af,none⟩:=⟨⟨O,fun c h=>by cases h⟩,fun P ev w=>by unfold execOp; exact zMW _⟩
theorem zLj {ty pos af t x y}:hZ ⟨none, .store t x y,ty,pos,af,none⟩:=⟨⟨O,fun c h=>by cases h⟩,fun P ev w=>by unfold execOp; exact zRC _⟩
theorem zIR {d ty pos af xs ts}:hZ ⟨some d, .call { callee:=.builtin .append,args:=xs,argTypes:=ts },ty,pos,af,none⟩:=⟨⟨O,fun c h=>by cases h⟩,fun P ev w=>by
 simp only [execOp,resolve,Sem.run_bind,Sem.run_pure,Result.andThen_ok,invoke,builtin]
 generalize Sem.run P (Builtin.append_ ts ty (Array.map ev xs)) w=r
 cases r <;> simp [Result.andThen,WR]⟩
theorem Qp {Fn:Fence} {n:Nat} {P:Program} {ops:Array Oper} {Qx Q:Exit→Act→World→Prop} (hF:∀ f,Fn.fn f) (hq:∀ e a w,Qx e a w→e= .normal∧Q .normal a w):∀ (l:List Oper) (a:Act) (w:World),(∀ o∈l,hZ o)→wpList P ops Qx l a w→wpListIn Fn n P ops Q l a w
 | [],a,w,_,h=>(hq _ _ _ h).2
 | o::l,a,w,ho,h=>by
  obtain ⟨⟨hg,hnd⟩,hr⟩:=ho o (by simp)
  have hw:Region.wanted o (yielded ops a.tmps)=true:=by simp [Region.wanted,hg]
  unfold wpList at h
  rw [if_pos hw] at h
  unfold wpListIn
  rw [if_pos hw]
  rcases h with h | ⟨_,a',w',h⟩
  ·unfold Oper.wp at h
   unfold Oper.wpIn
   refine ⟨fun f _=>hF f,?_⟩
   rw [Oper.semAt_eq _ _ _ hnd]
   have hok:=hr P a.eval w
   revert h hok
   generalize (execOp a.eval o).run P w=r
   intro h hok
   cases r with
   | ok nx w'=>
    cases nx with
    | value v=>exact Qp hF hq l _ _ (fun o' h'=>ho o' (by simp [h'])) h
    | skip=>exact Qp hF hq l _ _ (fun o' h'=>ho o' (by simp [h'])) h
    | _=>exact hok.elim
   | halt hh w'=>
    cases hh with
    | panic v=>have:=(hq _ _ _ h).1; cases this
    | _=>exact False.elim h
  ·have:=(hq _ _ _ h).1
   cases this
instance (P:Program) (ops:Array Oper) (Q:Exit→Act→World→Prop):Walk P ops (wpListIn Fence.wide 0 P ops Q) where
 val o rest a w v hw hr hx:=by
  unfold wpListIn
  rw [if_pos hw]
  unfold Oper.wpIn
  refine ⟨fun _ _=>trivial,?_⟩
  rw [Fence.wide_round,Oper.semAt_none,hr w (Ext.refl w)]
  exact hx
 pass o rest a w hw hx:=by
  unfold wpListIn
  rw [if_neg (by simp [hw])]
  exact ⟨fun _ _=>trivial,hx⟩
 bare o o' rest a w hw hw' hd ho ht hx:=by
  unfold wpListIn at hx ⊢
  rw [if_pos hw'] at hx
  rw [if_pos hw]
  have:execOp a.eval o=execOp a.eval o':=by unfold execOp; rw [ho,ht]
  unfold Oper.wpIn at hx ⊢
  refine ⟨fun _ _=>trivial,?_⟩
  have hx2:=hx.2
  rw [Fence.wide_round,Oper.semAt_none] at hx2 ⊢
  rw [this]
  revert hx2
  unfold Oper.uponIn
  rw [hd]
  exact id
 call o rest a w f args v hw hr hc hx:=by
  unfold wpListIn
  rw [if_pos hw]
  unfold Oper.wpIn
  refine ⟨fun _ _=>trivial,?_⟩
  rw [Fence.wide_round,Oper.semAt_none,hr w (Ext.refl w)]
  refine ⟨fun h=>by simp [Fence.wide] at h,callsIn_wide.2 ((hc w (Ext.refl w)).mono ?_)⟩
  rintro e w' ⟨rfl,hw'⟩
  exact hx w' hw'
def Qq {ε:Type} (P:Program) (l:Nat) (N:Nat) (Y:ε→List Int→List As):Prop:=∀ (e:ε) (pre:List Int) (x:Int) (w:World) (R:List As),pre.length<N→Sat (Y e pre++R) w→
 YieldAt Fence.wide 0 P l #[.int .u8 x] w fun o w'=>o= .returned (.bool true)∧∃ e',Sat (Y e' (pre++ [x])++R) w'∧Same w w'
section
variable {P:Program} [T:FP P] {w0:World} {nt:Nat} {Γ Γ':Env} {F F' G R:List As} {Q:Exit→Act→World→Prop} {ops:Array Oper} {rest:List Oper}
variable {d:Nat} {op:Op} {ty:Nat} {pos:String} {af:Array Edge} {X:List Oper→Act→World→Prop} {Post:Value→List As→Prop}
theorem St.YA {id:Nat} {l:List Oper} (h:St w0 nt Γ F (wpListIn Fence.wide 0 P l.toArray Q l)):St w0 nt Γ F ((Code.region id l.toArray false).wp P Q):=
 fun a w hs hd ha hf hw=>wpIn_wide.1 (wpIn_region_lit (h a w hs hd ha hf hw))
theorem St.Dw (h:St w0 nt Γ F (Q .normal)):St w0 nt Γ F (wpListIn Fence.wide 0 P ops Q []):=fun a w hs hd ha hf hw=>wpListIn_nil (h a w hs hd ha hf hw)
theorem St.yield {ε:Type} {l N:Nat} {Y:ε→List Int→List As} (h:Qq P l N Y) {e:ε} {pre:List Int} {k:Int} {x y:Operand} {ts:Array Nat} (hl:pre.length<N) (hd:Nat.blt d nt=true) (hx:ev Γ x=some (.func (.yield l) #[] #[])) (hy:ev Γ y=some (.int .u8 k))
    (hF:∀ w,Sat F w→Sat (Y e pre++R) w) (c:∀ e',St w0 nt ((d, .bool true)::Γ) (Y e' (pre++ [k])++R) (wpListIn Fence.wide 0 P ops Q rest)):
    St w0 nt Γ F (wpListIn Fence.wide 0 P ops Q (⟨some d, .call { callee:=.value x,args:=#[y],argTypes:=ts },ty,pos,af,none⟩::rest)):=
  fun a w hs hdf ha hf hw=>wpListIn_plain O fun K hK=>by
    obtain ⟨fn,tmps,assign,body,hy1,hR⟩:=h e pre k w R hl (hF w hf)
    have hr:(execOp a.eval ⟨some d, .call { callee:=.value x,args:=#[y],argTypes:=ts },ty,pos,af,none⟩).run P w= .ok (.round l fn tmps assign body) w:=by
      simp [execOp,resolve,ha.eval hx,ha.eval hy,Deferred.ofValue,invoke,hy1]
    unfold Oper.wpIn
    refine ⟨fun _ _=>trivial,?_⟩
    rw [Fence.wide_round,Oper.semAt_none,hr]
    refine ⟨fun h=>by simp [Fence.wide] at h,hR.mono ?_⟩
    rintro o w' ⟨rfl,e',JX,hsame⟩
    exact hK _ _ (c e' _ _ (by simp [Act.put,hs]) hdf (ha.put (hs▸Nat.le_of_ble_eq_true hd)) JX (hw.trans hsame))
end
def Zk:Nat→Option (uN Nat Unit):=fun k=>some (if k=0 then .done () else .next (k - 1))
theorem zIf:∀ n,yC Zk n=some ()
 | 0=>jH.2 ⟨1,O⟩
 | n+1=>by
  obtain ⟨k,hk⟩:=jH.1 (zIf n)
  exact jH.2 ⟨k+1,by simp [eI,Zk]; exact hk⟩
theorem zRa {ε:Type} {l N:Nat} {Y:ε→List Int→List As} (hY:Qq Tryz.prog l N Y) {g:Nat} {A:Option Nat} {m:Option (List (Int × List Int))} (hN:(qK m).length≤N) (e0:ε):
  BA Tryz.prog 269 [.func (.yield l) #[] #[], .pointer (some ⟨g,0,none⟩)] (.res (Box g 133 [.map A]):: .res (yV (yH .u8) (CY AQ) A m)::Y e0 [])
   (fun v F'=>∃ e ss,(ss.map (yH .u8).v).Perm ((qK m).map (yH .u8).v)∧F'= .res (Box g 133 [.map A]):: .res (yV (yH .u8) (CY AQ) A m)::Y e ss):=by
 refine BA.intro Tryz.func269 O O O fun w R=>?_
 refine St.seq ?_
 refine St.region ?_
 refine St.JO 0 O O (.head _) O O ?_
 refine St.gy O O (.s .z) O O fun it=>?_
 refine St.done ?_
 refine St.AO ?_
 refine St.slots (Γ':= [(0, .func (.yield l) #[] #[]),(1, .pointer (some ⟨g,0,none⟩)),(5, .pointer (some ⟨it,0,none⟩))]) ⟨O,O,O,trivial⟩ ?_
 refine St.block ?_
 refine St.loop (zIf (qK m).length) (fun (_:Nat) (_:List Int × ε)=> [(0, .func (.yield l) #[] #[]),(1, .pointer (some ⟨g,0,none⟩)),(5, .pointer (some ⟨it,0,none⟩))]) (fun _ e=>.res (tZ (yH .u8) (CY AQ) A m it e.1):: .res (Box g 133 [.map A])::(Y e.2 e.1++R)) (fun k e=>e.1.length+k=(qK m).length) ([],e0) (by simp) ⟨O,O,O,trivial⟩ (fun _ w=>w) ?_
 rintro k ⟨done,e⟩ hk -
 replace hk:done.length+k=(qK m).length:=hk
 refine St.seq ?_
 refine St.region ?_
 refine St.Dv O O .z (fun hp=>?_) (fun x v hlt=>?_)
 ·refine St.p O O ?_
  refine St.done ?_
  refine St.AO ?_
  refine St.seq ?_
  refine St.FU O ?_
  refine St.exit ?_
  repeat (first | refine St.OG ?_ | refine St.KN rfl ?_)
  refine St.LU ?_
  exact St.Xo (rs:= []) O O (.res (Box g 133 [.map A]):: .res (yV (yH .u8) (CY AQ) A m)::Y e done) ⟨e,done,hp,O⟩ (fun _ w=>(w.itV).front (.s .z))
 ·replace hlt:done.length<(qK m).length:=hlt
  refine St.p O O ?_
  refine St.done ?_
  refine St.AO ?_
  refine St.seq ?_
  refine St.EP O ?_
  refine St.skip ?_
  refine St.AO ?_
  refine St.slots (Γ':= [(0, .func (.yield l) #[] #[]),(1, .pointer (some ⟨g,0,none⟩)),(5, .pointer (some ⟨it,0,none⟩))]) ⟨O,O,O,trivial⟩ ?_
  refine St.block ?_
  refine St.seq ?_
  refine St.region ?_
  refine St.ig O O (.head _) fun v2=>?_
  iterate 2 refine St.p O O ?_
  refine St.done ?_
  refine St.AO ?_
  refine St.seq ?_
  refine St.YA ?_
  iterate 2 refine St.p O O ?_
  refine St.yield hY (e:=e) (pre:=done) (R:=.res (tZ (yH .u8) (CY AQ) A m it (done++ [x])):: .res (Box g 133 [.map A])::R) (by omega) O O O (fun _ w=>w.perm ?_) fun e'=>?_
  ·exact ((List.perm_middle (l₁:=Y e done)).trans (List.Perm.cons _ (List.perm_middle (l₁:=Y e done)))).symm
  refine St.p O O ?_
  refine St.Dw ?_
  refine St.AO ?_
  refine St.FU O ?_
  refine St.skip ?_
  refine St.BL ?_
  refine St.AO ?_
  exact St.again (k - 1) (done++ [x],e') (by simp only [Zk]; rw [if_neg (by omega)]) (by show (done++ [x]).length+(k - 1)=_; rw [List.length_append,List.length_singleton]; omega) ⟨O,O,O,trivial⟩ (fun _ w=>w.perm ((List.perm_middle (l₁:=Y e' (done++ [x]))).trans (List.Perm.cons _ (List.perm_middle (l₁:=Y e' (done++ [x]))))))
def cJ (l:Nat) (r:Loop):PZ where
 gs:= [l]
 p h:=h l=some (.loop r)
 loc m m' h k:=(h l (by simp)).symm.trans k
def YB (b:Nat):PZ where
 gs:= [b]
 p h:=h b=some (.deferred (some []))
 loc m m' h k:=(h b (by simp)).symm.trans k
theorem fC {w:World} {l:Nat} {o:Obj}:sS [l] w (w.putObj l o):=⟨⟨O,O,O,by show w.heap.size≤(w.heap.setIfInBounds l o).size; simp⟩,fun k _ hn=>World.putObj_heap_other (by simpa using hn)⟩
theorem Sat.ZI {l:Nat} {r r':Loop} {F:List As} {w:World} (h:Sat (.res (cJ l r)::F) w):Sat (.res (cJ l r')::F) (w.putObj l (.loop r')):=by
 have hlt:l<w.heap.size:=h.lt (by simp [yB,As.gs,cJ])
 refine h.exchange (r':=cJ l r') fC (by simp [cJ]) (fun k hk=>⟨Nat.lt_of_lt_of_le (by simp [cJ] at hk; subst hk; exact hlt) fC.size, .inl hk⟩) (World.putObj_heap_same hlt) trivial
theorem Zl {P:Program} {ops:Array Oper} {D:List Deferred} {Qx Q:Exit→Act→World→Prop} (hq:∀ e a w,Qx e a w→e= .normal∧Q .normal { a with defers:=D } w):∀ (l:List Oper) (a:Act) (w:World),(∀ o∈l,hZ o)→wpList P ops Qx l a w→wpList P ops Q l { a with defers:=D } w
 | [],a,w,_,h=>(hq _ _ _ h).2
 | o::l,a,w,ho,h=>by
  obtain ⟨⟨hg,hnd⟩,hr⟩:=ho o (by simp)
  have hw:Region.wanted o (yielded ops a.tmps)=true:=by simp [Region.wanted,hg]
  unfold wpList at h
  rw [if_pos hw] at h
  refine wpList_plain hg fun K hK=>?_
  have hput:∀ v,({ a with defers:=D }:Act).put o.dst v= { (a.put o.dst v) with defers:=D }:=fun v=>by
   unfold Act.put
   cases o.dst <;> rfl
  rcases h with h | ⟨_,a',w',h⟩
  ·unfold Oper.wp at h ⊢
   have hok:=hr P a.eval w
   have hev:({ a with defers:=D }:Act).eval=a.eval:=by
    funext x; cases x <;> rfl
   rw [hev]
   revert h hok
   generalize (execOp a.eval o).run P w=r
   intro h hok
   cases r with
   | ok nx w'=>
    cases nx with
    | value v=>exact hK _ _ (by rw [hput]; exact Zl hq l _ _ (fun o' h'=>ho o' (by simp [h'])) h)
    | skip=>exact hK _ _ (by rw [hput]; exact Zl hq l _ _ (fun o' h'=>ho o' (by simp [h'])) h)
    | _=>exact hok.elim
   | halt hh w'=>
    cases hh with
    | panic v=>have:=(hq _ _ _ h).1; cases this
    | _=>exact False.elim h
  ·have:=(hq _ _ _ h).1
   cases this
section
variable {P:Program} [T:FP P] {w0:World} {nt:Nat} {Γ Γ':Env} {F F' G R:List As} {Q:Exit→Act→World→Prop} {ops:Array Oper} {rest:List Oper}
def Qr (w0:World) (nt:Nat) (Γ:Env) (F:List As):Exit→Act→World→Prop:=fun e a w=>e= .normal∧a.tmps.size=nt∧a.defers= []∧At a Γ∧Sat F w∧Same w0 w
theorem St.ends:St w0 nt Γ F (Qr w0 nt Γ F .normal):=fun a w hs hd ha hf hw=>⟨O,hs,hd,ha,hf,hw⟩
theorem zPj {ε:Type} {l N p q i1 i2 i3 fn b:Nat} {la lb:List Oper} {tmps:Array Value} {Y0:ε→List Int→List As}
  (hs:tmps.size=nt) (hΓ:At { tmps:=tmps,defers:= [] } Γ) (hp:Nat.blt p nt=true)
  (pa:∀ o∈la,hZ o) (pb:∀ o∈lb,hZ o)
  (hA:∀ (x:Int) (F:List As) (w1:World),St w1 nt ((p, .int .u8 x)::Γ) F (wpList P la.toArray (Qr w1 nt ((q, .int .u8 x)::Γ) F) la))
  (hB:∀ (e:ε) (pre:List Int) (x:Int) (R:List As) (w1:World),pre.length<N→St w1 nt ((q, .int .u8 x)::Γ) (Y0 e pre++R) (wpList P lb.toArray (fun o a w=>o= .normal∧∃ e',Sat (Y0 e' (pre++ [x])++R) w∧Same w1 w) lb)):
  Qq P l N (fun e pre=>.res (cJ l { state:=.ready,pending:=none,fn:=fn,tmps:=tmps,params:=#[p],assign:=Code.region i1 la.toArray false,body:=Code.block i2 (Code.region i3 lb.toArray false),defers:=b })::Y0 e pre):=by
 intro e pre x w R hl JX
 generalize hrec:({ state:=.ready,pending:=none,fn:=fn,tmps:=tmps,params:=#[p],assign:=Code.region i1 la.toArray false,body:=Code.block i2 (Code.region i3 lb.toArray false),defers:=b }:Loop)=r at JX ⊢
 have hL:w.heap[l]? =some (.loop r):=JX.res (List.mem_cons_self ..)
 have hy:=run_yield (P:=P) (args:=#[.int .u8 x]) hL (by rw [←hrec]; rfl)
 refine ⟨_,_,_,_,hy,roundIn_of_wpIn trivial ?_⟩
 have htm:(r.params.zip #[.int .u8 x]).foldl (fun tmps (t,a)=>tmps.setIfInBounds t a) r.tmps=tmps.setIfInBounds p (.int .u8 x):=by
  rw [←hrec]; simp
 rw [htm]
 have hra:r.assign=Code.region i1 la.toArray false:=by rw [←hrec]
 have hrb:r.body=Code.block i2 (Code.region i3 lb.toArray false):=by rw [←hrec]
 have hrs:r.state= .ready:=by rw [←hrec]
 have hrp:r.pending=none:=by rw [←hrec]
 rw [hra]
 have aJi:p<nt:=Nat.le_of_ble_eq_true hp
 have ha0:At { tmps:=tmps.setIfInBounds p (.int .u8 x),defers:= [] } ((p, .int .u8 x)::Γ):=At.put (a:= { tmps:=tmps,defers:= [] }) hΓ (by show p<tmps.size; omega)
 refine wpIn_region_lit (Qp (fun _=>trivial) ?_ _ _ _ pa (hA x _ w _ w (by simp [hs]) O ha0 JX (Same.refl w)))
 rintro o a1 w1 ⟨rfl,h1,h2,h3,h4,h5⟩
 refine ⟨O,?_⟩
 have hL1:w1.heap[l]? =some (.loop r):=h4.res (List.mem_cons_self ..)
 refine ⟨_,run_beginRound hL1 hrs,?_⟩
 have h6:=h4.ZI (r':= { r with state:=.busy })
 have hsm:Same w1 (w1.putObj l (.loop { r with state:=.busy })):=(fC (w:=w1) (l:=l)).toSame
 revert h6 hsm
 generalize w1.putObj l (.loop { r with state:=.busy })=wB
 intro h6 hsm
 rw [hrb]
 refine wpIn_block (wpIn_region_lit (Qp (fun _=>trivial) ?_ _ _ _ pb (hB e pre x (.res (cJ l { r with state:=.busy })::R) _ hl a1 _ h1 h2 h3 (h6.perm (List.perm_middle (l₁:=Y0 e pre)).symm) (Same.refl _))))
 rintro o a2 w2 ⟨rfl,e',h7,h8⟩
 refine ⟨O,?_⟩
 have h9:=h7.perm (List.perm_middle (l₁:=Y0 e' (pre++ [x])))
 have hL2:w2.heap[l]? =some (.loop { r with state:=.busy }):=h9.res (List.mem_cons_self ..)
 refine ⟨_,_,run_endRound none hL2,O,e',?_,?_⟩
 ·have h10:=h9.ZI (r':=r)
  have er:({ ({ r with state:=.busy }:Loop) with state:=if (none:Option Code).isNone then .ready else .done,pending:=none }:Loop)=r:=by
   rw [←hrec]; rfl
  rw [er]
  exact h10
 ·exact h5.trans (hsm.trans (h8.trans (fC (w:=w2) (l:=l)).toSame))
end
theorem BA.iq {P:Program} {f:FuncId} {fn:Func} {c:Code} {args:List Value} {F:List As} {Post:Value→List As→Prop} {nt:Nat} (hf:P.funcs[f]? =some fn) (hb:fn.body=some c) (hn:fn.ntmps=nt) (hl:Nat.ble args.length nt=true)
  (h:∀ w R,St w nt (IU 0 args) (F++R) (c.wp P (bodyPostM Fence.wide 0 P fn (Out w R Post)))):BA P f args F Post:=by
 intro w R hs
 have hl':=Nat.le_of_ble_eq_true hl
 refine (callsIn_wide (n:=0)).1 (callsIn_of_wp_marks hf hb trivial (wpIn_wide.2 (h w R _ w ?_ O ?_ hs (Same.refl w))) O)
 ·simp [hn]; omega
 ·refine At.IU _ _ args 0 fun i v hv=>?_
  rw [Nat.zero_add]
  have hi:=(List.getElem?_eq_some_iff.1 hv).1
  rw [Array.getElem?_append_left (by simpa using hi)]
  simpa using hv
theorem zIX {P:Program} {f:FuncId} (he:BX P f) (args:Array Value) (w:World):(callFunc f args).run P w= .ok (.enter f args) w:=by
 obtain ⟨fn,h1,h2,h3⟩:=he
 unfold callFunc
 rw [Sem.run_bind,run_program]
 simp only [Result.andThen_ok,h1,h2,h3,Bool.false_eq_true,if_false,Sem.run_pure]
theorem Sat.ZJ {r:PZ} {F:List As} {w w':World} (h:Sat (.res r::F) w) (hw:sS r.gs w w'):Sat F w':=
 (h.exchange (r':=⟨r.gs,fun _=>True,fun _ _ _ _=>trivial,fun _ _=>True,fun _ _ _ _ _ _ _=>trivial⟩) hw (List.nodup_append.1 h.nodup).1 (fun k hk=>⟨Nat.lt_of_lt_of_le (h.lt (by simp only [yB,As.gs]; exact List.mem_append_left _ hk)) hw.size, .inl hk⟩) trivial trivial).tail
theorem St.YC {P:Program} [T:FP P] {w0:World} {nt:Nat} {Γ:Env} {F G R:List As} {Q:Exit→Act→World→Prop} {ε:Type} {N p q i1 i2 i3 f:Nat} {la lb:List Oper} {x:Operand} {caps:List Value} {Y0:ε→List Int→List As} {S:List Int→Prop} (e0:ε)
  (hx:ev Γ x=some (.func (.func f) #[] caps.toArray)) (he:BX P f) (hp:Nat.blt p nt=true) (hF:∀ w,Sat F w→Sat (G++(Y0 e0 []++R)) w)
  (hcall:∀ (l:Nat) (Y:ε→List Int→List As),Qq P l N Y→BA P f (.func (.yield l) #[] #[]::caps) (G++Y e0 []) (fun v F'=>∃ e ss,S ss∧F'=G++Y e ss))
  (pa:∀ o∈la,hZ o) (pb:∀ o∈lb,hZ o)
  (hA:∀ (x:Int) (F:List As) (w1:World),St w1 nt ((p, .int .u8 x)::Γ) F (wpList P la.toArray (Qr w1 nt ((q, .int .u8 x)::Γ) F) la))
  (hB:∀ (e:ε) (pre:List Int) (x:Int) (R:List As) (w1:World),pre.length<N→St w1 nt ((q, .int .u8 x)::Γ) (Y0 e pre++R) (wpList P lb.toArray (fun o a w=>o= .normal∧∃ e',Sat (Y0 e' (pre++ [x])++R) w∧Same w1 w) lb))
  (k:∀ (b:Nat) (e:ε) (ss:List Int),S ss→∀ a w,a.tmps.size=nt→a.defers= []→At a Γ→Sat (.res (YB b)::(G++(Y0 e ss++R))) w→Same w0 w→Q .normal { a with defers:= [{ target:=.collected b,args:=#[] }] } w):
  St w0 nt Γ F ((Code.rangeFunc x #[p] (Code.region i1 la.toArray false) (Code.block i2 (Code.region i3 lb.toArray false))).wp P Q):=by
 intro a w1 hs hdf ha hf hw
 refine (wpIn_wide (n:=0)).1 (wpIn_rangeFunc fun fn _=>?_)
 have hf2:=(hF w1 hf).GH (Ext.alloc w1 (.deferred (some []))) (YB w1.heap.size) (by simp [YB]) (fun k hk=>by simp [YB] at hk; subst hk; simp) (nA w1 _) trivial
 have hs2:(w1.alloc (.deferred (some []))).heap.size=w1.heap.size+1:=by simp
 have MW:=zPj (P:=P) (l:=w1.heap.size+1) (N:=N) (p:=p) (q:=q) (i1:=i1) (i2:=i2) (i3:=i3) (fn:=fn) (b:=w1.heap.size) (tmps:=a.tmps) (Y0:=Y0) hs (fun i v hv=>ha i v hv) hp pa pb hA hB
 generalize hrec:({ state:=.ready,pending:=none,fn:=fn,tmps:=a.tmps,params:=#[p],assign:=Code.region i1 la.toArray false,body:=Code.block i2 (Code.region i3 lb.toArray false),defers:=w1.heap.size }:Loop)=rec at MW
 have hf3:=hf2.GH (Ext.alloc _ (.loop rec)) (cJ (w1.heap.size+1) rec) (by simp [cJ]) (fun k hk=>by simp [cJ] at hk; subst hk; simp) (by have:=nA (w1.alloc (.deferred (some []))) (.loop rec); rwa [hs2] at this) trivial
 have hsm:Same w1 ((w1.alloc (.deferred (some []))).alloc (.loop rec)):=(Ext.alloc w1 _).toSame.trans (Ext.alloc _ _).toSame
 have henter:=run_enterLoop_outer (P:=P) (w:=w1) fn a.tmps #[p] (Code.region i1 la.toArray false) (Code.block i2 (Code.region i3 lb.toArray false))
 rw [hrec] at henter
 revert hf3 hsm henter
 generalize (w1.alloc (.deferred (some []))).alloc (.loop rec)=w3
 intro hf3 hsm henter
 refine ⟨w1.heap.size+1,_,w3, { target:=.fn (.func f) caps.toArray,args:=#[.func (.yield (w1.heap.size+1)) #[] #[]] },w3,f,(Value.func (.yield (w1.heap.size+1)) #[] #[]::caps).toArray,w3,henter,?_,fun _ _=>trivial,?_,fun h=>by simp [Fence.wide] at h,callsIn_wide.2 ?_⟩
 ·have hev:Act.eval { tmps:=a.tmps,defers:=a.defers } x= .func (.func f) #[] caps.toArray:=ha.eval hx
  simp [resolve,ha.eval hx,Deferred.ofValue]
  try rfl
 ·simp only [invoke]
  have:=zIX he (#[Value.func (.yield (w1.heap.size+1)) #[] #[]]++caps.toArray) w3
  rw [this]
  congr 2
  simp
 ·have hmid:∀ (Y R:List As) (X:As),(G++(Y++X::R)).Perm (X::(G++(Y++R))):=fun Y R X=>by
   rw [←List.append_assoc,←List.append_assoc]
   exact List.perm_middle
  have hc:=hcall _ _ MW w3 (.res (YB w1.heap.size)::R) (hf3.perm ?_)
  ·refine hc.mono ?_
   rintro o w4 ⟨v,F',rfl,⟨e,ss,hS,rfl⟩,JX,hsame⟩
   have ZK:=JX.perm (G:=.res (cJ (w1.heap.size+1) rec):: .res (YB w1.heap.size)::(G++(Y0 e ss++R))) (by
    rw [List.append_assoc]
    exact (List.perm_middle (l₁:=G)).trans (List.Perm.cons _ (hmid _ _ _)))
   have hL:w4.heap[w1.heap.size+1]? =some (.loop rec):=ZK.res (List.mem_cons_self ..)
   have hend:=run_endLoop (P:=P) hL (by rw [←hrec]; simp)
   have hpn:rec.pending=none:=by rw [←hrec]
   have hwr:sS (cJ (w1.heap.size+1) rec).gs w4 (w4.putObj (w1.heap.size+1) (.loop { rec with state:=.exhausted })):=fC
   revert hend hwr
   generalize w4.putObj (w1.heap.size+1) (.loop { rec with state:=.exhausted })=w5
   intro hend hwr
   rw [hpn] at hend
   refine ⟨none,w5,hend,?_⟩
   have h5:=ZK.ZJ hwr
   have:=k w1.heap.size e ss hS a w5 hs hdf ha h5 (hw.trans (hsm.trans (hsame.trans hwr.toSame)))
   rw [hdf]
   exact this
  ·rw [List.append_assoc]
   exact (List.Perm.cons _ (hmid _ _ _).symm).trans (List.perm_middle (l₁:=G)).symm
def Zm (bs:Nat) (e:Option Addr × Nat) (pre:List Int):List As:= [.res (Box bs 22 [.slice e.1 pre.length e.2]), .res (zI AQ 5 e.1 e.2 pre)]
theorem zOT:BX Tryz.prog 269:=⟨_,Tryz.func269,by kernel_rfl,by kernel_rfl⟩
theorem zLb {g:Nat} {A:Option Nat} {m:Option (List (Int × List Int))} (hm:(qK m).length≤1000):
  BA Tryz.prog 272 [.slice none 0 0, .func (.func 269) #[] #[.pointer (some ⟨g,0,none⟩)]] [.res (Box g 133 [.map A]), .res (yV (yH .u8) (CY AQ) A m)]
   (fun v F'=>∃ B c ss,(ss.map (yH .u8).v).Perm ((qK m).map (yH .u8).v)∧v= .slice B ss.length c∧F'= [.res (Box g 133 [.map A]), .res (yV (yH .u8) (CY AQ) A m), .res (zI AQ 5 B c ss)]):=by
 refine BA.iq Tryz.func272 O O O fun w R=>?_
 refine St.seq ?_
 refine St.region ?_
 refine St.box O O fun bs=>?_
 refine St.p O O ?_
 refine St.done ?_
 refine St.AO ?_
 refine St.seq ?_
 refine St.seq ?_
 refine St.region ?_
 refine St.p O O ?_
 refine St.done ?_
 refine St.AO ?_
 refine St.slots (Γ':= [(2, .pointer (some ⟨bs,0,none⟩)),(6, .func (.func 269) #[] #[.pointer (some ⟨g,0,none⟩)])]) ⟨O,O,trivial⟩ ?_
 refine St.block ?_
 refine St.YC (N:=1000) (q:=5) (caps:= [.pointer (some ⟨g,0,none⟩)]) (Y0:=Zm bs) (S:=fun ss=>(ss.map (yH .u8).v).Perm ((qK m).map (yH .u8).v)) (G:= [.res (Box g 133 [.map A]), .res (yV (yH .u8) (CY AQ) A m)]) (R:=R) (none,0) O zOT O (fun w h=>(((h.HY AQ 5).front (.s .z)).front (CS 3 O)).front (CS 3 O)) (fun l Y hY=>zRa hY hm _) ?_ ?_ (fun x F w1=>?_) (fun e pre x R w1 hl=>?_) ?_
 ·intro o ho
  simp only [List.mem_cons,List.not_mem_nil,or_false] at ho
  subst ho
  exact zCw
 ·intro o ho
  simp only [List.mem_cons,List.not_mem_nil,or_false] at ho
  rcases ho with rfl | rfl | rfl | rfl | rfl
  ·exact zGF
  ·exact zMc
  ·exact zJY
  ·exact zIR
  ·exact zLj
 ·refine St.p O O ?_
  refine St.done ?_
  refine St.slots (Γ':= [(5, .int .u8 x),(2, .pointer (some ⟨bs,0,none⟩)),(6, .func (.func 269) #[] #[.pointer (some ⟨g,0,none⟩)])]) ⟨O,O,O,trivial⟩ ?_
  exact St.ends
 ·have happ:app 1 pre [x]=some (pre++ [x]):=by
   unfold app
   rw [if_pos (by simp; omega)]
  refine St.JO 0 O O (.head _) O O ?_
  refine St.p O O ?_
  refine St.buildSlice O O O O O O O O fun g1=>?_
  refine St.app (E:=AQ) happ O O O (CS 2 O) O O O O O O O O (iV (.head _) O O) O O fun A4 c4=>?_
  refine St.store 0 O O O O O O (CS 2 O) O ?_
  refine St.done ?_
  intro a w hs hdf ha hf hw
  exact ⟨O,(A4,c4),((.k (.k (.d .z))):tI _ _).sat hf,hw⟩
 ·intro b e ss hS a w1 hs hdf ha hf hw
  have hst:∀ {X:Act→World→Prop},St w _ [(2, .pointer (some ⟨bs,0,none⟩)),(6, .func (.func 269) #[] #[.pointer (some ⟨g,0,none⟩)])] (.res (YB b)::([.res (Box g 133 [.map A]), .res (yV (yH .u8) (CY AQ) A m)]++(Zm bs e ss++R))) X→X a w1:=fun h=>h a w1 hs hdf ha hf hw
  refine wp_seq ?_
  refine wp_region_lit (Zl (Qx:=Qr w Tryz.f272.ntmps [(4, .slice e.1 ss.length e.2)] (.res (YB b)::([.res (Box g 133 [.map A]), .res (yV (yH .u8) (CY AQ) A m)]++(Zm bs e ss++R)))) ?_ _ a w1 ?_ (hst ?_))
  ·rintro o a2 w2 ⟨rfl,h1,h2,h3,h4,h5⟩
   refine ⟨O,?_⟩
   refine wp_ret ?_
   have hD:w2.heap[b]? =some (.deferred (some [])):=h4.res (List.mem_cons_self ..)
   have hwr:sS (YB b).gs w2 (w2.putObj b (.deferred none)):=fC
   have h6:=h4.ZJ hwr
   refine ⟨by simp, .inl ⟨b,_,O,run_takeDeferred hD, .slice e.1 ss.length e.2,zEs h3 (rs:= [.tmp 4]) O O,?_⟩⟩
   refine ⟨_,_,O,⟨e.1,e.2,ss,hS,O,O⟩,?_,h5.trans hwr.toSame⟩
   exact ((.k (.k (.d (.k .z)))):tI _ _).sat h6
  ·intro o ho
   simp only [List.mem_cons,List.not_mem_nil,or_false] at ho
   rcases ho with rfl | rfl
   ·exact zGF
   ·exact zCw
  ·refine St.JO 0 O O XI O O ?_
   refine St.p O O ?_
   refine St.done ?_
   refine St.slots (Γ':= [(4, .slice e.1 ss.length e.2)]) ⟨O,trivial⟩ ?_
   exact St.ends
section
variable {P:Program} [T:FP P] {w0:World} {nt:Nat} {Γ Γ':Env} {F F' G R:List As} {Q:Exit→Act→World→Prop} {ops:Array Oper} {rest:List Oper}
variable {d:Nat} {op:Op} {ty:Nat} {pos:String} {af:Array Edge}
theorem Qs {α:Type} {xs ys zs:List α} {A:Option Addr} {c:Nat} (h:ZB xs.length ys=some zs):some (Value.slice A xs.length c)=some (Value.slice A ys.length c):=by rw [zPZ h]
end
theorem zSC:BX Tryz.prog 287:=en Tryz.func287 (by kernel_rfl)
def eY (DI:Int):Option Int:=
 bnd ((bif decide (DI≥4294967296) then (some (rM .u64 DI 32,32)) else (some (DI,0)):Option (Int × Int))) fun o1=>bnd ((bif decide (o1.1≥65536) then (some (rM .u64 o1.1 16,wrap .i64 (o1.2+16))) else (some (o1.1,o1.2)):Option (Int × Int))) fun o2=>bif decide (o2.1≥256) then (bnd (FM (⟨#[0,1,2,2,3,3,3,3,4,4,4,4,4,4,4,4,5,5,5,5,5,5,5,5,5,5,5,5,5,5,5,5,6,6,6,6,6,6,6,6,6,6,6,6,6,6,6,6,6,6,6,6,6,6,6,6,6,6,6,6,6,6,6,6,7,7,7,7,7,7,7,7,7,7,7,7,7,7,7,7,7,7,7,7,7,7,7,7,7,7,7,7,7,7,7,7,7,7,7,7,7,7,7,7,7,7,7,7,7,7,7,7,7,7,7,7,7,7,7,7,7,7,7,7,7,7,7,7,8,8,8,8,8,8,8,8,8,8,8,8,8,8,8,8,8,8,8,8,8,8,8,8,8,8,8,8,8,8,8,8,8,8,8,8,8,8,8,8,8,8,8,8,8,8,8,8,8,8,8,8,8,8,8,8,8,8,8,8,8,8,8,8,8,8,8,8,8,8,8,8,8,8,8,8,8,8,8,8,8,8,8,8,8,8,8,8,8,8,8,8,8,8,8,8,8,8,8,8,8,8,8,8,8,8,8,8,8,8,8,8,8,8,8,8,8,8,8,8,8,8,8,8,8,8,8,8]⟩) (wrap .u8 (rM .u64 o2.1 8))) fun y1=>some (wrap .i64 ((wrap .i64 (o2.2+8))+(wrap .i64 y1)))) else (bnd (FM (⟨#[0,1,2,2,3,3,3,3,4,4,4,4,4,4,4,4,5,5,5,5,5,5,5,5,5,5,5,5,5,5,5,5,6,6,6,6,6,6,6,6,6,6,6,6,6,6,6,6,6,6,6,6,6,6,6,6,6,6,6,6,6,6,6,6,7,7,7,7,7,7,7,7,7,7,7,7,7,7,7,7,7,7,7,7,7,7,7,7,7,7,7,7,7,7,7,7,7,7,7,7,7,7,7,7,7,7,7,7,7,7,7,7,7,7,7,7,7,7,7,7,7,7,7,7,7,7,7,7,8,8,8,8,8,8,8,8,8,8,8,8,8,8,8,8,8,8,8,8,8,8,8,8,8,8,8,8,8,8,8,8,8,8,8,8,8,8,8,8,8,8,8,8,8,8,8,8,8,8,8,8,8,8,8,8,8,8,8,8,8,8,8,8,8,8,8,8,8,8,8,8,8,8,8,8,8,8,8,8,8,8,8,8,8,8,8,8,8,8,8,8,8,8,8,8,8,8,8,8,8,8,8,8,8,8,8,8,8,8,8,8,8,8,8,8,8,8,8,8,8,8,8,8,8,8,8,8]⟩) (wrap .u8 o2.1)) fun y2=>some (wrap .i64 (o2.2+(wrap .i64 y2))))
theorem zCI {DI r} (h:eY DI=some r):
    BA Tryz.prog 287 [.int .u64 DI] [] (Val (.int .i64 r)):=by
 refine BA.intro Tryz.func287 O O O fun w R=>?_;refine .ae O<|.seq<|.bd h fun o1 hj1 h=>.cu 0 [.s 0 (.int .u64 o1.1), .s 2 (.int .i64 o1.2)] [] O O ?_ ?_
 ·refine .ab [0,2,4] O<|.cb hj1 O (fun hj1=>?_) (fun hj1=>?_)
  ·refine .ab [0] O<|.region ?_;cases hj1;exact .be O<|.hU O zw
  cases hj1;exact .sk<|.hU O zw
 refine .seq<|.bd h fun o2 hj2 h=>.cu 0 [.s 0 (.int .u64 o2.1), .s 2 (.int .i64 o2.2)] [] O O ?_ ?_
 ·refine .ab [0,2,8] O<|.cb hj2 O (fun hj2=>?_) (fun hj2=>?_)
  ·refine .ab [0,2] O<|.region ?_;cases hj2;exact .be O<|.hU O zw
  cases hj2;exact .sk<|.hU O zw
 refine .seq<|.ab [0,2,14] O<|.cb h O (fun h=>?_) (fun h=>?_)
 ·refine .ab [0,2] O<|.region<|.b [0,2] O<|.a 3 O<|.bd h fun y1 hy1 h=>.FM O O O O O hy1<|.b [2] O ?_;cases h;exact .rv O O ⟨O,O⟩ zw
 refine .sk<|.pr [0,2] O<|.a 3 O<|.bd h fun y2 hy2 h=>.FM O O O O O hy2<|.b [2] O ?_;cases h;exact .rv O O ⟨O,O⟩ zw
theorem zTo:BX Tryz.prog 274:=en Tryz.func274 (by kernel_rfl)
def iX (DI:Int):Option Int:=
 bnd (eY DI) fun r1=>some r1
theorem zEy {DI r} (h:iX DI=some r):
    BA Tryz.prog 274 [.int .u64 DI] [] (Val (.int .i64 r)):=by
 refine BA.intro Tryz.func274 O O O fun w R=>?_;refine .ab [0] O<|.seq<|.FU O<|.sk<|.a 1 O<|.bd h fun r1 hr1 h=>.cv [] (zCI hr1) zSC O<|.b [2] O ?_;cases h;exact .rv O O ⟨O,O⟩ zw
theorem zPa:BX Tryz.prog 294:=en Tryz.func294 (by kernel_rfl)
def oT (DI:Int):Option Bool:=
 some (DI != DI)
theorem eQ {DI r} (h:oT DI=some r):
    BA Tryz.prog 294 [.int .u8 DI] [] (Val (.bool r)):=by
 unfold oT at h
 refine BA.intro Tryz.func294 O O O fun w R=>?_;refine .ab [0] O<|.ab [2] O ?_;cases h;exact .rv O O ⟨O,O⟩ zw
theorem zSW:BX Tryz.prog 283:=en Tryz.func283 (by kernel_rfl)
def dU (DI:Int) (GX:Int):Option Bool:=
 bnd ((bnd (oT DI) fun r1=>bif r1 then (bnd (oT GX) fun r2=>bif !r2 then (some true) else (some (decide (DI<GX)))) else (some (decide (DI<GX))):Option Bool)) fun o1=>some o1
theorem zDx {DI GX r} (h:dU DI GX=some r):
    BA Tryz.prog 283 [.int .u8 DI, .int .u8 GX] [] (Val (.bool r)):=by
 refine BA.intro Tryz.func283 O O O fun w R=>?_;refine .ab [0,1] O<|.seq<|.bd h fun o1 hj1 h=>.cu 0 [.s 4 (.bool o1)] [] O O ?_ ?_
 ·refine .region<|.p O O<|.bd hj1 fun r1 hr1 hj1=>.cv [] (eQ hr1) zPa O<|.p O O<|.gs 7 hj1 O (fun hj1=>?_) (fun hj1=>?_)
  ·refine .n 1 O<|.BN O O<|.bd hj1 fun r2 hr2 hj1=>.cv [] (eQ hr2) zPa O<|.n 3 O<|.gs 12 hj1 O (fun hj1=>?_) (fun hj1=>?_)
   ·cases hj1;exact .be O<|.hU O zw
   cases hj1;exact .be O<|.hU O zw
  cases hj1;exact .be O<|.hU O zw
 cases h;exact .rv O O ⟨O,O⟩ zw
theorem zSZ:BX Tryz.prog 277:=en Tryz.func277 (by kernel_rfl)
def xX (data:(List Int)) (OD:Int) (FN:Int):Option (List Int):=
 bnd (yC (τ:=List Int) (fun (s1:List Int × Int)=>bif decide (s1.2<FN) then (bnd (yC (τ:=List Int) (fun (s2:List Int × Int)=>bnd ((bif decide (s2.2>OD) then (bnd (BP s2.1 s2.2) fun x1=>bnd (BP s2.1 (wrap .i64 (s2.2 - 1))) fun x2=>bnd (dU x1 x2) fun r1=>some r1) else (some false):Option Bool)) fun o3=>bif o3 then (bnd (BP s2.1 (wrap .i64 (s2.2 - 1))) fun x3=>bnd (BP s2.1 (wrap .i64 (s2.2 - 1))) fun x4=>bnd (BP s2.1 s2.2) fun x5=>bnd (BP s2.1 s2.2) fun x6=>bnd (rJ s2.1 s2.2 x4) fun l1=>bnd (BP l1 (wrap .i64 (s2.2 - 1))) fun x7=>bnd (rJ l1 (wrap .i64 (s2.2 - 1)) x5) fun l2=>some (.next (l2,wrap .i64 (s2.2 - 1)))) else (some (.done s2.1))) (s1.1,s1.2)) fun o2=>some (.next (o2,wrap .i64 (s1.2+1)))) else (some (.done s1.1))) (data,wrap .i64 (OD+1))) fun o1=>some o1
theorem mB {data OD FN A1 c1 r} (h:xX data OD FN=some r):
    BA Tryz.prog 277 [.slice A1 data.length c1, .int .i64 OD, .int .i64 FN] [.res (zI AQ 5 A1 c1 data)] (fun v F=>v= .tuple #[]∧F= [.res (zI AQ 5 A1 c1 r)]):=by
 refine BA.intro Tryz.func277 O O O fun w R=>?_;refine .ab [0,1,2,6] O<|.bd h fun o1 hl1 h=>.IV<|.cu 1 [] [.res (zI AQ 5 A1 c1 o1)] O O ?_ ?_
 ·refine .block<|.BM hl1 1 (fun (s1:List Int × Int) (e1:Unit)=>[.s 0 (.slice A1 s1.1.length c1),1,2, .s 6 (.int .i64 s1.2)]) (fun s1 e1=>[.res (zI AQ 5 A1 c1 s1.1)]) O O () (zb O) (fun _ w=>w) ?_;rintro s1 e1 st1 hm1 hd1 h1;refine .seq<|.ab [0,1,2,6,12] O<|.cb h1 O (fun h1=>?_) (fun h1=>?_)
  ·refine .sk<|.pr [0,1,2,6] O<|.seq<|.block<|.ab [0,1,2,6,7] O<|.bd h1 fun o2 hl2 h1=>.IV<|.cu 1 [.s 0 (.slice A1 o2.length c1),1,2,6] [.res (zI AQ 5 A1 c1 o2)] O O ?_ ?_
   ·refine .block<|.BM hl2 1 (fun (s2:List Int × Int) (e3:Unit)=>[.s 0 (.slice A1 s2.1.length c1),1,2,6, .s 7 (.int .i64 s2.2)]) (fun s2 e3=>[.res (zI AQ 5 A1 c1 s2.1)]) O O () (zb O) (fun _ w=>w) ?_;rintro s2 e3 st2 hm2 hd2 h2;refine .seq<|.seq<|.bd h2 fun o3 hj1 h2=>.cu 0 [0,1,2,6,7, .s 30 (.bool o3)] [] O O ?_ ?_
    ·refine .regionF mixed (by kernel_rfl)<|.n 4 O<|.gs 19 hj1 O (fun hj1=>?_) (fun hj1=>?_)
     ·refine .n 2 O<|.BN O O<|.bd hj1 fun x1 hx1 hj1=>.PW hx1 0 O fun g1 hA=>?_;subst hA;refine .BN O O<|.MJ 0 hx1 O O (.head _) O O<|.n 3 O<|.BN O O<|.bd hj1 fun x2 hx2 hj1=>.PW hx2 0 O fun g2 hA=>?_;cases hA;refine .BN O O<|.MJ 0 hx2 O O (.head _) O O<|.BN O O<|.bd hj1 fun r1 hr1 hj1=>.cv [] (zDx hr1) zSW O ?_;cases hj1;exact .beq O<|.hU O zw
     cases hj1;exact .beq O<|.hU O zw
    refine .cb h2 O (fun h2=>?_) (fun h2=>?_)
    ·refine .sk<|.pr [0,1,2,6,7] O<|.seq<|.block<|.bd h2 fun x3 hx3 h2=>.QE (.head _) hx3 fun g3 hA=>?_;subst hA;refine .BI (iN [0,4,8,12,16,20,24,28,33,37,40,44,49,53,57,63,65,71] .nil) _ mixed (by kernel_rfl) (zl [] 1 O)<|.yn 8 O<|.bd h2 fun x4 hx4 h2=>.JC (Rd.TA (E:=AQ) hx4 O O O O O O O) O<|.JC (Rd.MJ 0 hx4 O (.head _) O O) O<|.yn 2 O<|.bd h2 fun x5 hx5 h2=>.JC (Rd.TA (E:=AQ) hx5 O O O O O O O) O<|.JC (Rd.MJ 0 hx5 O (.head _) O O) O<|.bd h2 fun x6 hx6 h2=>.JC (Rd.TA (E:=AQ) hx6 O O O O O O O) O<|.BV<|.bd h2 fun l1 hl1 h2=>.TB 0 hx6 hl1 O O .z O O O O O ?_;refine .ss 0 (wY hl1) ?_;refine .ss 33 (wY hl1) ?_;refine .ss 35 (wY hl1) ?_;refine .ss 38 (wY hl1) ?_;refine .ss 43 (wY hl1)<|.xk (zl [] 1 O)<|.bd h2 fun x7 hx7 h2=>.JC (Rd.TA (E:=AQ) hx7 O O O O O O O) O<|.BV<|.bd h2 fun l2 hl2 h2=>.TB 0 hx7 hl2 O O .z O O O O O ?_;refine .ss 0 (wY hl2) ?_;refine .ss 33 (wY hl2) ?_;refine .ss 35 (wY hl2) ?_;refine .ss 38 (wY hl2) ?_;refine .ss 43 (wY hl2)<|.xk (zl [] 1 O)<|.CQ<|.BL<|.AO<|.pr [0,1,2,6,7] O<|.region ?_;cases h2;exact .be O<|.ag () hm2 O zw
    refine .xq O ?_;cases h2;cases hd2 _ rfl
    exact .AO<|.hU O zw
   refine .BL<|.AO<|.region ?_;cases h1;exact .be O<|.ag () hm1 O zw
  refine .xq O ?_;cases h1;cases hd1 _ rfl
  exact .AO<|.QB () trivial zw
 cases h;exact .YV Tryz.results277 .nil O _ ⟨O,O⟩ (fun _ w=>w)
theorem zUh:BX Tryz.prog 273:=en Tryz.func273 (by kernel_rfl)
def vB (data:(List Int)) (OD:Int) (FN:Int) (limit:Int):Option (List Int):=
 bnd (yC (τ:=(List Int) ⊕ Unit) (fun (s1:Int × Int × Int × Bool × Bool)=>bif decide ((wrap .i64 (s1.2.1 - s1.1))≤12) then (bnd (xX data s1.1 s1.2.1) fun r1=>bnd (ZB data.length r1) fun l1=>some (.done (.inl r1))) else (bif (s1.2.2.1==0) then (none) else (bif !s1.2.2.2.1 then (none) else (none)))) (OD,FN,limit,true,true)) fun o1=>xL o1 fun o2=>none
theorem iC {data OD FN limit A1 c1 r} (h:vB data OD FN limit=some r):
    BA Tryz.prog 273 [.slice A1 data.length c1, .int .i64 OD, .int .i64 FN, .int .i64 limit] [.res (zI AQ 5 A1 c1 data)] (fun v F=>v= .tuple #[]∧F= [.res (zI AQ 5 A1 c1 r)]):=by
 refine BA.intro Tryz.func273 O O O fun w R=>?_;refine .ae O<|.ae O<|.bd h fun o1 hl1 h=>.IV<|.ES 0 (fun (o2:Unit) (e2:Unit)=>[]) (fun o2 e2=>[]) O O (fun o2=>o1= .inr o2) ?_ ?_
 ·refine .block<|.BM hl1 0 (fun (s1:Int × Int × Int × Bool × Bool) (e1:Unit)=>[0, .s 1 (.int .i64 s1.1), .s 2 (.int .i64 s1.2.1), .s 3 (.int .i64 s1.2.2.1), .s 8 (.bool s1.2.2.2.1), .s 9 (.bool s1.2.2.2.2)]) (fun s1 e1=>[]) O O () (zb O) (fun _ w=>w) ?_;rintro s1 e1 st1 hm1 hd1 h1;refine .block<|.ab [0,1,2,3,8,9,10] O<|.seq<|.ab [0,1,2,3,8,9,10,23] O<|.cb h1 O (fun h1=>?_) (fun h1=>?_)
  ·refine .a 3 O<|.bd h1 fun r1 hr1 h1=>.cq 1 [] [] 0 (mB hr1) zSZ O<|.bd h1 fun l1 hl1 h1=>?_;refine .ss 0 (Qs hl1) ?_;refine .ss 24 (Qs hl1)<|.b [] O ?_;cases h1;cases hd1 _ rfl
   have h:some _=some _:=h;cases h;exact .rv O O ⟨O,O⟩ zw
  refine .sk<|.pr [0,1,2,3,8,9,10] O<|.seq<|.ab [0,1,2,3,8,9,10,29] O<|.cb h1 O (fun h1=>?_) (fun h1=>?_)
  ·refine .a 3 O ?_;cases h1
  refine .sk<|.pr [0,1,2,3,8,9,10] O<|.seq<|.ab [0,1,2,3,8,9,10,35] O<|.cb h1 O (fun h1=>?_) (fun h1=>?_)
  ·refine .a 3 O ?_;cases h1
  refine .sk<|.pr [0,1,2,3,8,9,10] O<|.a 3 O ?_;cases h1
 rintro o2 e2 ho;subst ho;have h:=JG h;have h:none=some _:=h;cases h
def rA (DI:(List Int)):Option (List Int):=
 bnd (iX (wrap .u64 (DI.length:Int))) fun r1=>bnd (vB DI 0 (DI.length:Int) r1) fun r2=>bnd (ZB DI.length r2) fun l1=>some r2
theorem fG {DI A1 c1 r} (h:rA DI=some r):
    BA Tryz.prog 268 [.slice A1 DI.length c1] [.res (zI AQ 5 A1 c1 DI)] (fun v F=>v= .tuple #[]∧F= [.res (zI AQ 5 A1 c1 r)]):=by
 refine BA.intro Tryz.func268 O O O fun w R=>?_;refine .ab [0,2] O<|.region<|.n 4 O<|.bd h fun r1 hr1 h=>.cv [] (zEy hr1) zTo O<|.bd h fun r2 hr2 h=>.cq 1 [] [] 0 (iC hr2) zUh O<|.bd h fun l1 hl1 h=>?_;refine .ss 0 (Qs hl1) ?_;refine .ss 5 (Qs hl1)<|.done ?_;cases h;exact .YV Tryz.results268 .nil O _ ⟨O,O⟩ (fun _ w=>w)
end Go.Proofs.YtplchdlgdjcojaaGreatDoor
end
