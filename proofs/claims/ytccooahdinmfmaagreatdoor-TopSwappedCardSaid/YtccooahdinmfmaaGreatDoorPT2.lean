/-
  Texts of this seat, put together: rules, walks, plain laws.
  Conditions: none.
-/
import Derived.Test.YtccooahdinmfmaaGreatDoorPT1
noncomputable section
namespace Go.Proofs.YtccooahdinmfmaaGreatDoor
open Go IntKind
set_option linter.unusedVariables false
set_option linter.unusedSimpArgs false
set_option linter.unusedSectionVars false
set_option maxHeartbeats 4000000
set_option maxRecDepth 10000
def yg:List (Nat × Nat)→Nat→Nat
 | [],_=>0
 | x::r,i=>bif Nat.beq x.1 i then x.2 else yg r i
def aS (KG:List (Nat × Nat)):List Nat→Nat
 | []=>0
 | e::r=>(2 ^ e|||yg KG e)|||aS KG r
def Qe:Tg→Tg→Bool
 | .ef,_=>false
 | .fx, .ef=>false
 | _,_=>true
def yh:Tg→Bool
 | .ef=>true
 | _=>false
def yj (m i:Nat):List Nat→Bool
 | []=>false
 | h::r=>bif Nat.beq h i then true else bif m.testBit h then true else yj m i r
theorem V7 {m i:Nat}:∀ {l:List Nat},yj m i l=true→∃ h∈l,h=i∨m.testBit h=true
 | [],h=>by simp [yj] at h
 | x::r,h=>by
  simp only [yj] at h
  cases h1:Nat.beq x i
  ·simp only [h1,cond_false] at h
   cases h2:m.testBit x
   ·simp only [h2,cond_false] at h
    obtain ⟨y,hy,h3⟩:=V7 h
    exact ⟨y,List.mem_cons_of_mem _ hy,h3⟩
   ·exact ⟨x,List.mem_cons_self .., .inr h2⟩
  ·exact ⟨x,List.mem_cons_self .., .inl (Nat.eq_of_beq_eq_true h1)⟩
def Qg (ops:Array Oper) (m:Nat) (p:kK × List Nat) (z:kK):Bool:=bif m.testBit p.1.i then true else bif yh p.1.t then yj m z.i p.2 else bif p.1.o.apart ops z.o then Qe p.1.t z.t else false
def XZ {α:Type} (f:α→Bool):List α→Bool
 | []=>true
 | x::r=>bif f x then XZ f r else false
theorem Gz {α:Type} {f:α→Bool}:∀ {l:List α},XZ f l=true→∀ x∈l,f x=true
 | [],_,_,h=>by cases h
 | y::r,h,x,hx=>by
  simp only [XZ] at h
  cases hb:f y
  ·simp [hb] at h
  ·simp only [hb,cond_true] at h
   cases hx with
   | head=>exact hb
   | tail _ hx=>exact Gz h x hx
def fZ:Tr→Bool
 | .nil=>true
 | .st z _=>yh z.t
 | .alt t u=>bif fZ t then fZ u else false
theorem bO:∀ {t:Tr},fZ t=true→V3 t
 | .nil,_=>fun p hp=>by cases hp
 | .st z t,h=>fun p hp=>by
  simp only [pY,List.mem_singleton] at hp
  subst hp
  simp only [fZ] at h
  cases hz:z.t <;> simp_all [yh]
 | .alt t u,h=>fun p hp=>by
  simp only [fZ] at h
  cases ht:fZ t <;> simp only [ht,cond_true,cond_false] at h <;> try cases h
  rcases List.mem_append.1 hp with hp | hp
  ·exact bO ht p hp
  ·exact bO h p hp
def VY (ops:Array Oper):Tr→List Nat→List (kK × List Nat)→List (Nat × Nat)→Nat→Nat→Bool
 | .nil,_,_,_,done,k=>bif Nat.beq k ops.size then XZ (fun i=>done.testBit i) (List.range ops.size) else false
 | .st z r,H,prev,KG,done,k=>
  bif XZ (fun e=>done.testBit e) (rB z.o) then bif done.testBit z.i then false else bif Gn z.o.op then
   bif XZ (fun p=>Qg ops (aS KG (rB z.o)) p z) prev then VY ops r (RV r) ((z,H)::prev) ((z.i,aS KG (rB z.o))::KG) (done|||2 ^ z.i) (k+1) else false else false else false
 | .alt t u,H,prev,KG,done,k=>bif fZ (.alt t u) then bif VY ops t H prev KG done k then VY ops u H prev KG done k else false else false
theorem V8 {ops:Array Oper}:∀ {KG:List (Nat × Nat)},(∀ x∈KG,∀ j,x.2.testBit j=true→mK ops x.1 j)→∀ i j,(yg KG i).testBit j=true→mK ops i j
 | [],_,i,j,h=>by simp [yg] at h
 | x::r,ht,i,j,h=>by
  simp only [yg] at h
  cases hb:Nat.beq x.1 i
  ·simp only [hb,cond_false] at h
   exact V8 (fun y hy=>ht y (List.mem_cons_of_mem _ hy)) i j h
  ·simp only [hb,cond_true] at h
   have:=Nat.eq_of_beq_eq_true hb
   rw [←this]
   exact ht x (List.mem_cons_self ..) j h
theorem V9 {ops:Array Oper} {KG:List (Nat × Nat)} (ht:∀ x∈KG,∀ j,x.2.testBit j=true→mK ops x.1 j) {i:Nat}:∀ (es:List Nat),(∀ e∈es,mK ops i e)→∀ j,(aS KG es).testBit j=true→mK ops i j
 | [],_,j,h=>by simp [aS] at h
 | e::r,he,j,h=>by
  simp only [aS,Nat.testBit_or,Bool.or_eq_true] at h
  rcases h with (h | h) | h
  ·rw [Nat.testBit_two_pow] at h
   simp only [decide_eq_true_eq] at h
   subst h
   exact he _ (List.mem_cons_self ..)
  ·exact (he e (List.mem_cons_self ..)).trans (V8 ht e j h)
  ·exact V9 ht r (fun x hx=>he x (List.mem_cons_of_mem _ hx)) j h
theorem zLW {p z:Tg} (h:Qe p z=true):p≠.ef∧(z= .ef→p≠.fx):=by
 cases p <;> cases z <;> simp_all [Qe]
theorem He {ops:Array Oper}:∀ (r:Tr) (H:List Nat) (prev:List (kK × List Nat)) (KG:List (Nat × Nat)) (done k:Nat),(∀ z∈uU r,ops[z.i]? =some z.o)→(∀ z∈prev,ops[z.1.i]? =some z.1.o)→(∀ x∈KG,∀ j,x.2.testBit j=true→mK ops x.1 j)→(∀ j,done.testBit j=true↔∃ p∈prev,p.1.i=j)→
  VY ops r H prev KG done k=true→ZT ops H r∧(∀ p∈prev,∀ q∈uU r,p.1.i≠q.i∧(mK ops q.i p.1.i∨(p.1.t= .ef∧∃ h∈p.2,h=q.i∨mK ops q.i h)∨TY ops p.1 q))∧(∀ p∈uU r,Gx ops p)∧(∀ i,i<ops.size→(∃ p∈prev,p.1.i=i)∨VW r i)∧∃ m,VX r m∧k+m=ops.size
 | .nil,H,prev,KG,done,k,hr,hp,ht,hd,h=>by
  simp only [VY] at h
  cases h0:Nat.beq k ops.size <;> simp only [h0,cond_true,cond_false] at h <;> try cases h
  refine ⟨trivial,(fun _ _ _ h=>by cases h),(fun _ h=>by cases h),fun i hi=>?_,0,rfl,Nat.eq_of_beq_eq_true h0⟩
  exact .inl ((hd i).1 (Gz h i (List.mem_range.2 hi)))
 | .alt t u,H,prev,KG,done,k,hr,hp,ht,hd,h=>by
  simp only [VY] at h
  cases h1:fZ (.alt t u) <;> simp only [h1,cond_true,cond_false] at h <;> try cases h
  cases h2:VY ops t H prev KG done k <;> simp only [h2,cond_true,cond_false] at h <;> try cases h
  obtain ⟨a1,a2,a3,a4,m1,a5,a6⟩:=He t H prev KG done k (fun z hz=>hr z (List.mem_append_left _ hz)) hp ht hd h2
  obtain ⟨b1,b2,b3,b4,m2,b5,b6⟩:=He u H prev KG done k (fun z hz=>hr z (List.mem_append_right _ hz)) hp ht hd h
  have hm:m1=m2:=by omega
  subst hm
  refine ⟨⟨bO h1,a1,b1⟩,fun p hpm q hq=>?_,fun p hpm=>?_,fun i hi=>?_,m1,⟨a5,b5⟩,a6⟩
  ·rcases List.mem_append.1 hq with hq | hq
   ·exact a2 p hpm q hq
   ·exact b2 p hpm q hq
  ·rcases List.mem_append.1 hpm with hpm | hpm
   ·exact a3 p hpm
   ·exact b3 p hpm
  ·rcases a4 i hi with h3 | h3
   ·exact .inl h3
   ·rcases b4 i hi with h4 | h4
    ·exact .inl h4
    ·exact .inr ⟨h3,h4⟩
 | .st z r,H,prev,KG,done,k,hr,hp,ht,hd,h=>by
  simp only [VY] at h
  cases h1:XZ (fun e=>done.testBit e) (rB z.o) <;> simp only [h1,cond_true,cond_false] at h <;> try cases h
  cases h2:done.testBit z.i <;> simp only [h2,cond_true,cond_false] at h <;> try cases h
  cases h3:Gn z.o.op <;> simp only [h3,cond_true,cond_false] at h <;> try cases h
  cases h4:XZ (fun p=>Qg ops (aS KG (rB z.o)) p z) prev <;> simp only [h4,cond_true,cond_false] at h <;> try cases h
  have Qh:=hr z (List.mem_cons_self ..)
  have hmask:∀ j,(aS KG (rB z.o)).testBit j=true→mK ops z.i j:=V9 ht _ fun e he=>by
   obtain ⟨e',he',hb,rfl⟩:=eD.1 he
   exact .edge Qh he' hb
  have YA:∀ e∈z.o.after,Region.binds .any e=true→∃ p∈prev,p.1.i=e.on:=fun e he hb=>(hd _).1 (Gz h1 _ (eD.2 ⟨e,he,hb,O⟩))
  have hzn:¬ ∃ p∈prev,p.1.i=z.i:=fun hc=>by
   have:=(hd _).2 hc
   rw [h2] at this
   cases this
  obtain ⟨g1,g2,g3,g4,m,g5,g6⟩:=He r (RV r) ((z,H)::prev) _ _ _ (fun y hy=>hr y (List.mem_cons_of_mem _ hy)) (fun y hy=>by
    rcases List.mem_cons.1 hy with rfl | hy
    ·exact Qh
    ·exact hp y hy) (fun x hx j hj=>by
    rcases List.mem_cons.1 hx with rfl | hx
    ·exact hmask j hj
    ·exact ht x hx j hj) (fun j=>by
    simp only [Nat.testBit_or,Bool.or_eq_true,hd,Nat.testBit_two_pow,decide_eq_true_eq,List.mem_cons,exists_eq_or_imp]
    exact ⟨fun hh=>hh.elim (fun h=>.inr h) fun h=>.inl h,fun hh=>hh.elim (fun h=>.inr h) fun h=>.inl h⟩) h
  have hpz:∀ p∈prev,p.1.i≠z.i∧(mK ops z.i p.1.i∨(p.1.t= .ef∧∃ h∈p.2,h=z.i∨mK ops z.i h)∨TY ops p.1 z):=fun p hpm=>by
   refine ⟨fun e=>hzn ⟨p,hpm,e⟩,?_⟩
   have h5:=Gz h4 p hpm
   unfold Qg at h5
   cases hm:(aS KG (rB z.o)).testBit p.1.i
   ·simp only [hm,cond_false] at h5
    cases he:yh p.1.t
    ·simp only [he,cond_false] at h5
     cases ha:p.1.o.apart ops z.o
     ·simp [ha] at h5
     ·simp only [ha,cond_true] at h5
      have:=zLW h5
      exact .inr (.inr ⟨ha,this.1,this.2⟩)
    ·simp only [he,cond_true] at h5
     have hex:∃ h∈p.2,h=z.i∨mK ops z.i h:=by
      obtain ⟨h,hh,h6⟩:=V7 h5
      exact ⟨h,hh,h6.elim .inl fun h6=>.inr (hmask _ h6)⟩
     refine .inr (.inl ⟨?_,hex⟩)
     cases ht:p.1.t <;> simp_all [yh]
   ·exact .inl (hmask _ hm)
  refine ⟨⟨fun q hq=>?_,g1⟩,fun p hpm q hq=>?_,fun p hpm=>?_,fun i hi=>?_,m+1,g5,by omega⟩
  ·have h5:=g2 (z,H) (List.mem_cons_self ..) q hq
   refine ⟨h5.1,fun e he hb hc=>?_,h5.2⟩
   obtain ⟨p,hpm,hpi⟩:=YA e he hb
   exact (g2 p (List.mem_cons_of_mem _ hpm) q hq).1 (hpi.trans hc)
  ·rcases List.mem_cons.1 hq with rfl | hq
   ·exact hpz p hpm
   ·exact g2 p (List.mem_cons_of_mem _ hpm) q hq
  ·rcases List.mem_cons.1 hpm with rfl | hpm
   ·refine ⟨Qh,(fun cs b hop=>by rw [hop] at h3; cases h3),fun e he hb=>?_⟩
    obtain ⟨q,hqm,hqi⟩:=YA e he hb
    refine ⟨fun hc=>hzn ⟨q,hqm,hqi.trans hc⟩,?_⟩
    rw [←hqi]
    exact (Array.getElem?_eq_some_iff.1 (hp q hqm)).1
   ·exact g3 p hpm
  ·rcases g4 i hi with ⟨p,hpm,hpi⟩ | h5
   ·rcases List.mem_cons.1 hpm with rfl | hpm
    ·exact .inr (.inl hpi)
    ·exact .inl ⟨p,hpm,hpi⟩
   ·exact .inr (.inr h5)
inductive YB where
 | nil
 | st (t:Tg) (i:Nat) (r:YB)
 | alt (t u:YB)
def eK (l:List Oper):YB→Tr
 | .nil=>.nil
 | .st g i r=>match l[i]? with
  | some o=>.st ⟨g,i,o⟩ (eK l r)
  | none=>eK l r
 | .alt t u=>.alt (eK l t) (eK l u)
theorem bE (l:List Oper):∀ (tg:YB),∀ z∈uU (eK l tg),l.toArray[z.i]? =some z.o
 | .nil,z,h=>by cases h
 | .st g i r,z,h=>by
  simp only [eK] at h
  split at h
  ·rename_i o ho
   rcases List.mem_cons.1 h with rfl | h
   ·simpa using ho
   ·exact bE l r z h
  ·exact bE l r z h
 | .alt t u,z,h=>by
  rcases List.mem_append.1 h with h | h
  ·exact bE l t z h
  ·exact bE l u z h
theorem zLA {P:Program} {Q:Exit→Act→World→Prop} {C:World→Prop} {id:Nat} {l:List Oper} {a:Act} {w:World} (tg:YB) (hm:P.follows .mixedOrders=true) (hB:VY l.toArray (eK l tg) (RV (eK l tg)) [] [] 0 0=true) (WY:∀ w w',C w→Ext w w'→C w') (hC:C { w with drawn:=w.drawn+1 })
  (h:FZ P l.toArray C (Q .normal) (eK l tg) a { w with drawn:=w.drawn+1 }):(Code.region id l.toArray true).wp P Q a w:=by
 obtain ⟨g1,_,g3,g4,m,g5,g6⟩:=He (eK l tg) _ [] [] 0 0 (bE l tg) (fun _ h=>by cases h) (fun _ h=>by cases h) (fun j=>by simp) hB
 refine wp_region_any hm ?_
 refine Gy (P:=P) (C:=C) (Q:=Q .normal) (Q':=Q) WY (fun _ _ h=>h) l.toArray.size (eK l tg) [] (Array.replicate l.toArray.size false) a { w with drawn:=w.drawn+1 } ⟨⟨m,g5,by simpa using g6⟩,List.Pairwise.nil,(fun _ h=>by cases h),g1,(fun p hp=>g3 p (by simpa using hp)),(by simp),(fun i hi=>.inr ?_),(fun p hp=>?_),(fun i hi=>?_)⟩ hC h
 ·rcases g4 i hi with ⟨p,hp,_⟩ | h1
  ·cases hp
  ·exact .inr h1
 ·have:=(Array.getElem?_eq_some_iff.1 (bE l tg p (by simpa using hp))).1
  simp only [List.size_toArray] at this
  simp [Array.getD_eq_getD_getElem?,this]
 ·simp only [Array.getD_eq_getD_getElem?] at hi
  by_cases h:i<l.length
  ·simp [h] at hi
  ·simp [h] at hi
section
variable {P:Program} [T:ET P] {w0:World} {nt:Nat} {Γ Γ':Env} {F F' F₀ F₁ G R:List As} {Q:Exit→Act→World→Prop} {ops:Array Oper} {rest:Tr} {Qn:Act→World→Prop} {C:World→Prop}
variable {d i:Nat} {op:Op} {ty:Nat} {pos:String} {af:Array Edge}
theorem St.BG {id:Nat} {l:List Oper} (tg:YB) (F₀:List As) (hm:P.follows .mixedOrders=true) (hB:VY l.toArray (eK l tg) (RV (eK l tg)) [] [] 0 0=true) (hF:∀ w,Sat F w→Sat F₀ w)
  (h:St w0 nt Γ F (FZ P l.toArray (Sat F₀) (Q .normal) (eK l tg))):St w0 nt Γ F ((Code.region id l.toArray true).wp P Q):=
 fun a w hs hd ha hf hw=>zLA tg hm hB (fun _ _ h he=>h.ext he) ((hF w hf).ext (Ext.drew w)) (h a w.drew hs hd ha (hf.ext (Ext.drew w)) (hw.trans (Ext.drew w).toSame))
def Rd (P:Program) (F:List As) (Γ:Env) (op:Op) (v:Value):Prop:=∀ (a:Act) (w:World) (d:Option Nat) (ty:Nat) (pos:String) (af:Array Edge) (g:Option (Nat × Bool)),At a Γ→Sat F w→(execOp a.eval ⟨d,op,ty,pos,af,g⟩).run P w= .ok (.value v) w
theorem St.IG {v:Value} (hc:∀ w,C w→Sat F₁ w) (hr:Rd P F₁ Γ op v) (hd:Nat.blt d nt=true) (k:St w0 nt ((d,v)::Γ) F (FZ P ops C Qn rest)):St w0 nt Γ F (FZ P ops C Qn (.st ⟨.fl,i,⟨some d,op,ty,pos,af,none⟩⟩ rest)):=
 fun a w hs hdf ha hf hw=>by
  show qS P ops C _ a _ _
  unfold qS
  rw [if_pos (yT O _)]
  exact ⟨v,fun w' hcw=>hr a w' _ _ _ _ _ ha (hc w' hcw),k _ w (by simp [Act.put,hs]) hdf (ha.put (hs▸Nat.le_of_ble_eq_true hd)) hf hw⟩
theorem St.DR {v:Value} (hr:Rd P F Γ op v) (hd:Nat.blt d nt=true) (k:St w0 nt ((d,v)::Γ) F (FZ P ops C Qn rest)):St w0 nt Γ F (FZ P ops C Qn (.st ⟨.fx,i,⟨some d,op,ty,pos,af,none⟩⟩ rest)):=
 fun a w hs hdf ha hf hw=>by
  show qS P ops C _ a _ _
  unfold qS
  rw [if_pos (yT O _)]
  exact ⟨v,fun w' he=>hr a w' _ _ _ _ _ ha (hf.ext he),k _ w (by simp [Act.put,hs]) hdf (ha.put (hs▸Nat.le_of_ble_eq_true hd)) hf hw⟩
theorem zWj {o:Oper} {a:Act} {w0' w:World} (hg:o.guard=none) (h1:wpList P ops (fun e a w=>e= .normal∧C w∧FZ P ops C Qn rest a w) [o] a w):o.wp P a w (fun a' w''=>C w''∧FZ P ops C Qn rest a' w'') wu:=by
 unfold wpList at h1
 rw [if_pos (yT hg _)] at h1
 rcases h1 with h1 | ⟨_,a',w',h2,_⟩
 ·unfold Oper.wp at*
  generalize (execOp a.eval o).run P w=r at*
  cases r with
  | ok n w'=>
   cases n <;> simp only [Oper.upon,wpList] at h1 ⊢
   case value v=>exact h1.2
   case skip=>exact h1.2
   case defer d=>exact h1.2
   case enter f args=>
    refine h1.mono fun e w'' he=>?_
    cases e with
    | returned v=>exact he.2
    | panicked ch=>exact (by cases he.1)
    | outgrown=>obtain ⟨_,_,hf,_⟩:=he; cases hf
   case row r args=>exact h1.mono fun v w'' hv=>hv.2
  | halt x w'=>
   cases x <;> simp only [Oper.upon] at h1 ⊢
   cases h1.1
 ·cases h2
theorem St.BZ {dst:Option Nat} (h:St w0 nt Γ F (wpList P ops (fun e a w=>e= .normal∧C w∧FZ P ops C Qn rest a w) [⟨dst,op,ty,pos,af,none⟩])):St w0 nt Γ F (FZ P ops C Qn (.st ⟨.ef,i,⟨dst,op,ty,pos,af,none⟩⟩ rest)):=
 fun a w0' hs hdf ha hf hw=>by
  show qS P ops C _ a _ _
  unfold qS
  rw [if_pos (yT O _)]
  intro w W9
  exact zWj (w0':=w0') O (h a w hs hdf ha (hf.ext W9) (hw.trans W9.toSame))
theorem St.xk (hC:∀ w,Sat F w→C w) (k:St w0 nt Γ F (FZ P ops C Qn rest)):St w0 nt Γ F (wpList P ops (fun e a w=>e= .normal∧C w∧FZ P ops C Qn rest a w) []):=
 St.done fun a w hs hdf ha hf hw=>⟨O,hC w hf,k a w hs hdf ha hf hw⟩
theorem St.BX (k:St w0 nt Γ F Qn):St w0 nt Γ F (FZ P ops C Qn .nil):=fun a w hs hdf ha hf hw w' he=>k a w' hs hdf ha (hf.ext he) (hw.trans he.toSame)
theorem St.YC {f:FuncId} {args:List Value} {Gs:List As} {v:Value} {x:Operand} {xs:List Operand} {ts:Array Nat} (hc:∀ w,C w→Sat F₁ w) (h:AX P f args Gs (Val v)) (he:BV P f) (hd:Nat.blt d nt=true) (hx:ev Γ x=some (.func (.func f) #[] #[])) (hxs:evs Γ xs=some args)
  (hro:iO Gs=true) (hin:lE Gs F₁) (k:St w0 nt ((d,v)::Γ) F (FZ P ops C Qn rest)):
  St w0 nt Γ F (FZ P ops C Qn (.st ⟨.qc,i,⟨some d, .call { callee:=.value x,args:=xs.toArray,argTypes:=ts },ty,pos,af,none⟩⟩ rest)):=
 fun a w hs hdf ha hf hw=>by
  show qS P ops C _ a _ _
  unfold qS
  rw [if_pos (yT O _)]
  exact ⟨v,f,args.toArray,fun w' hcw=>Gl he (ha.eval hx) (ha.KQ hxs) w' _ _,fun w' hcw=>h.quiet hro hin (hc w' hcw),k _ w (by simp [Act.put,hs]) hdf (ha.put (hs▸Nat.le_of_ble_eq_true hd)) hf hw⟩
theorem Rd.p {v:Value} (hv:ML T.tt Γ op=some v):Rd P F Γ op v:=fun a w d ty pos af g ha _=>J6 T.ok ha (o:=⟨d,op,ty,pos,af,g⟩) hv w
theorem Rd.JJ {t:Nat} {x:Operand} {g t':Nat} (off:Nat) {p:Nat} {cs:List Value} {v:Value} (hx:ev Γ x=some (.pointer (some ⟨g,p,none⟩))) (hm:As.res (Box g t' cs)∈F) (hp:p=off) (hv:rF T.tt t cs off=some v):Rd P F Γ (.load t x) v:=
  fun a w d ty pos af gg ha hf=>by
    exact pI (P:=P) (a:=a) (x:=x) (b:=g) (o:=0) (off:=off) T.ok (by rw [ha.eval hx,hp,Nat.zero_add]) hv (w:=w) (fun i u hu=>by
      rw [Nat.zero_add]
      exact Box.cell (hf.res hm) hu) _ _
theorem Rd.load {t:Nat} {x:Operand} {b p:Nat} (o:Nat) (off:Nat) {cs:List Value} {v:Value} (hx:ev Γ x=some (.pointer (some ⟨b,p,none⟩))) (hm:As.ro (vJ b o cs)∈F) (hp:p=o+off) (hv:rF T.tt t cs off=some v):Rd P F Γ (.load t x) v:=
 fun a w d ty pos af gg ha hf=>pI (P:=P) (a:=a) (x:=x) T.ok (by rw [ha.eval hx,hp]) hv (w:=w) (fun i u hu=>by
  have:=hf.KR hm i u hu
  rw [Gj] at this
  exact this) _ _
theorem St.FV {X:Act→World→Prop} {α:Type} {E:Enc α} {A:Option Addr} {c:Nat} {xs:List α} {q:Int} {y:α} (hm:As.ro (BP E A c xs)∈F) (hy:AU xs q=some y) (k:∀ b o,(∃ oA,A=some ⟨b,oA,none⟩∧o=oA+q.toNat*E.sz)→St w0 nt Γ F X):St w0 nt Γ F X:=
  fun a w hs hdf ha hf hw=>by
    obtain ⟨h0,h1,h2⟩:=vG hy
    have hsl:=hf.KR hm
    cases A with
    | none=>
      have:=hsl.2.2.1 O
      subst this
      simp at h2
    | some ad=>
      obtain ⟨hspot,_⟩:=hsl.2.2.2 ad rfl _ _ h2
      obtain ⟨b,o,s⟩:=ad
      simp only at hspot
      subst hspot
      exact k b _ ⟨o,O,O⟩ a w hs hdf ha hf hw
theorem Sat.EP {α:Type} {E:Enc α} {A:Option Addr} {c:Nat} {xs:List α} {q:Int} {y:α} {b o:Nat} {w:World} (hA:∃ oA,A=some ⟨b,oA,none⟩∧o=oA+q.toNat*E.sz) (hm:As.ro (BP E A c xs)∈F) (hy:AU xs q=some y) (hf:Sat F w):Sat (.ro (vJ b o (E.enc y))::F) w:=by
 obtain ⟨oA,rfl,rfl⟩:=hA
 obtain ⟨h0,h1,h2⟩:=vG hy
 refine hf.EO _ ?_
 obtain ⟨_,cs,hrel,hc⟩:=(hf.ro hm).2.2.2 _ rfl _ _ h2
 have:cs=E.enc y:=hrel
 subst this
 exact hc
theorem Rd.LK {α:Type} {E:Enc α} {t e:Nat} {i j:TI} {x ix:Operand} {A:Option Addr} {n c:Nat} {kk:IntKind} {q:Int} {xs:List α} {y:α} {b o:Nat} (hA:∃ oA,A=some ⟨b,oA,none⟩∧o=oA+q.toNat*E.sz) (hy:AU xs q=some y) (hx:ev Γ x=some (.slice A n c)) (hq:ev Γ ix=some (.int kk q))
    (hlen:n=xs.length) (hi:zY T.tt t=some i) (hdesc:i.desc= .slice e) (hj:zY T.tt e=some j) (hn:j.size=E.sz):Rd P F Γ (.indexAddr t x ix) (.pointer (some ⟨b,o,none⟩)):=
  fun a w d ty pos af gg ha hf=>by
    obtain ⟨oA,rfl,rfl⟩:=hA
    obtain ⟨h0,h1,h2⟩:=vG hy
    subst hlen
    obtain ⟨dd,hu,hdd⟩:=T.ok.desc hi
    have hadd:(⟨b,oA,none⟩:Addr).add (q.toNat*E.sz)=⟨b,oA+q.toNat*E.sz,none⟩:=by
      unfold Addr.add
      split
      · rename_i hz; rw [hz]; rfl
      · rfl
    simp [execOp,Instr.indexAt,ha.eval hx,ha.eval hq,asIntOf,run_underlying hu,TD.of_slice (hdd.trans hdesc),yB T.ok hj,hn,h0,h1,hadd]
theorem Rd.FO {α:Type} {E:Enc α} {t e:Nat} {i j:TI} {x ix:Operand} {n c g:Nat} {kk:IntKind} {q:Int} {xs:List α} {y:α} (hy:AU xs q=some y) (hx:ev Γ x=some (.slice (some ⟨g,0,none⟩) n c)) (hq:ev Γ ix=some (.int kk q))
  (hlen:n=xs.length) (hi:zY T.tt t=some i) (hdesc:i.desc= .slice e) (hj:zY T.tt e=some j) (hn:j.size=E.sz):Rd P F Γ (.indexAddr t x ix) (.pointer (some ⟨g,q.toNat*E.sz,none⟩)):=
 fun a w d ty pos af gg ha hf=>by
  obtain ⟨h0,h1,h2⟩:=vG hy
  subst hlen
  obtain ⟨dd,hu,hdd⟩:=T.ok.desc hi
  have hadd:(⟨g,0,none⟩:Addr).add (q.toNat*E.sz)=⟨g,q.toNat*E.sz,none⟩:=tC g _
  simp [execOp,Instr.indexAt,ha.eval hx,ha.eval hq,asIntOf,run_underlying hu,TD.of_slice (hdd.trans hdesc),yB T.ok hj,hn,h0,h1,hadd]
theorem Rd.EZ {α:Type} {E:Enc α} {t e c g p:Nat} {x:Operand} {q:Int} {y:α} (off:Nat) {xs:List α} {v:Value} (hy:AU xs q=some y) (hx:ev Γ x=some (.pointer (some ⟨g,p,none⟩))) (hm:As.res (zD E e (some ⟨g,0,none⟩) c xs)∈F)
  (hpp:p=q.toNat*E.sz+off) (hv:rF T.tt t (E.enc y) off=some v):Rd P F Γ (.load t x) v:=
 fun a w d ty pos af gg ha hf=>pI (P:=P) (a:=a) (x:=x) (b:=g) (o:=q.toNat*E.sz) (off:=off) T.ok (by rw [ha.eval hx,hpp]) hv (w:=w) (fun i u hu=>eS (hf.res hm) (Pm hy) i u hu) _ _
theorem St.JU {X:Act→World→Prop} {α:Type} {E:Enc α} {A:Option Addr} {c e:Nat} {xs:List α} {q:Int} {y:α} (hm:As.res (zD E e A c xs)∈F) (hy:AU xs q=some y) (k:∀ g,A=some ⟨g,0,none⟩→St w0 nt Γ F X):St w0 nt Γ F X:=
 fun a w hs hdf ha hf hw=>by
  obtain ⟨h0,h1,h2⟩:=vG hy
  have hown:lK E.sz e A xs.length c (xs.map E.enc) (hp w):=hf.res hm
  rcases hown.2.2 with ⟨h,_⟩ | ⟨g,cur,fr,_,hA,_⟩
  ·omega
  ·exact k g hA a w hs hdf ha hf hw
theorem Rd.lookup {α β:Type} {K:pQ α} {vv:β→Value} {t kt e:Nat} {i j l:TI} {g:Nat} {m:List (α × β)} {x y:Operand} {comma:Bool} {u:Value} (z:β) (k:α) (hx:ev Γ x=some (.map (some g))) (hy:ev Γ y=some (K.v k)) (hm:As.res (jY K vv g m)∈F)
  (hi:zY T.tt t=some i) (hdesc:i.desc= .map kt e) (hj:zY T.tt kt=some j) (hjd:j.desc=K.td) (hl:zY T.tt e=some l) (hz:l.zero=vv z) (hu:wo vv z (uA K.eq m k) comma=u):Rd P F Γ (.lookup t x y comma) u:=
 fun a w d ty pos af gg ha hf=>by
  subst hu
  have:=U5 (P:=P) z comma hi hdesc hj hjd hl hz k (hf.res hm)
  simp [execOp,ha.eval hx,ha.eval hy,this]
end
def RX {α:Type} (φ:α→Prop) (xs:List α):Prop:=(∀ x∈xs,φ x)∧xs.length≤maxLen
inductive LC (α:Type):Type 1 where
 | v (f:α→Value) (one:∀ x,(f x).oneCell'=true)
 | s {β:Type} (E:FH β) (f:α→List β)
def LC.rel {α:Type} (m:Hp) (x:α):LC α→Value→Prop
 | .v f _,u=>u=f x
 | .s E f,u=>∃ A c,u= .slice A (f x).length c∧IL E A c (f x) m
def VZ {α:Type} (m:Hp) (x:α):List (LC α)→List Value→Prop
 | [], []=>True
 | l::ls,u::us=>l.rel m x u∧VZ m x ls us
 | _,_=>False
theorem X0 {α:Type} {m:Hp} {x:α}:∀ {ls:List (LC α)} {us:List Value},VZ m x ls us→us.length=ls.length
 | [], [],_=>rfl
 | _::_,_::_,h=>by simp [X0 h.2]
 | [],_::_,h=>h.elim
 | _::_, [],h=>h.elim
theorem X3 {α:Type} {m:Hp} {x:α}:∀ {ls:List (LC α)} {us:List Value},VZ m x ls us→∀ u∈us,u.oneCell'=true
 | [], [],_,u,hu=>by cases hu
 | l::ls,v::us,h,u,hu=>by
  rcases List.mem_cons.1 hu with rfl | hu
  ·cases l with
   | v f one=>rw [show u=f x from h.1]; exact one x
   | s E f=>obtain ⟨A,c,rfl,_⟩:=h.1; rfl
  ·exact X3 h.2 u hu
 | [],_::_,h,_,_=>h.elim
 | _::_, [],h,_,_=>h.elim
theorem LC.UB {α:Type} {m m':Hp} {x:α} (hm:Hp.le m m') {l:LC α} {u:Value} (h:l.rel m x u):l.rel m' x u:=by
 cases l with
 | v f one=>exact h
 | s E f=>obtain ⟨A,c,h1,h2⟩:=h; exact ⟨A,c,h1,(Sl E A c (f x)).mono _ _ hm h2⟩
theorem X4 {α:Type} {m m':Hp} {x:α} (hm:Hp.le m m'):∀ {ls:List (LC α)} {us:List Value},VZ m x ls us→VZ m' x ls us
 | [], [],_=>trivial
 | _::_,_::_,h=>⟨LC.UB hm h.1,X4 hm h.2⟩
 | [],_::_,h=>h.elim
 | _::_, [],h=>h.elim
def yL {α:Type} (ls:List (LC α)):FH α where
 n:=ls.length
 rel m x cs:=VZ m x ls cs
 len _ _ _ h:=X0 h
 one _ _ _ h:=X3 h
 mono _ _ _ _ hm h:=X4 hm h
def JW {α:Type}:List (LC α)→Type
 | []=>Unit
 | .v _ _::r=>JW r
 | .s _ _::r=>(Option Addr × Nat) × JW r
def rM {α:Type} (x:α):(ls:List (LC α))→JW ls→List Value
 | [],_=> []
 | .v f _::r,e=>f x::rM x r e
 | .s _ f::r,e=>.slice e.1.1 (f x).length e.1.2::rM x r e.2
def tS {α:Type} (x:α):(ls:List (LC α))→JW ls→List As
 | [],_=> []
 | .v _ _::r,e=>tS x r e
 | .s E f::r,e=>.ro (Sl E e.1.1 e.1.2 (f x))::tS x r e.2
theorem rK {α:Type} {x:α}:∀ (ls:List (LC α)) (e:JW ls),iO (tS x ls e)=true
 | [],_=>rfl
 | .v _ _::r,e=>rK r e
 | .s _ _::r,e=>rK r e.2
theorem YD {α:Type} {m:Hp} {x:α}:∀ {ls:List (LC α)} {us:List Value},VZ m x ls us→∃ e:JW ls,us=rM x ls e∧∀ r,As.ro r∈tS x ls e→r.p m
 | [], [],_=>⟨(),O,fun _ h=>by cases h⟩
 | .v f one::ls,u::us,h=>by
  obtain ⟨e,h1,h2⟩:=YD h.2
  exact ⟨e,by rw [h1,show u=f x from h.1]; rfl,h2⟩
 | .s E f::ls,u::us,h=>by
  obtain ⟨A,c,rfl,hsl⟩:=h.1
  obtain ⟨e,h1,h2⟩:=YD h.2
  refine ⟨((A,c),e),by rw [h1]; rfl,fun r hr=>?_⟩
  rcases List.mem_cons.1 hr with hr | hr
  ·injection hr with hr; subst hr; exact hsl
  ·exact h2 r hr
 | [],_::_,h=>h.elim
 | .v _ _::_, [],h=>h.elim
 | .s _ _::_, [],h=>h.elim
theorem Hf {α:Type} {m:Hp} {x:α}:∀ {ls:List (LC α)} (e:JW ls),(∀ r,As.ro r∈tS x ls e→r.p m)→VZ m x ls (rM x ls e)
 | [],_,_=>trivial
 | .v f one::ls,e,h=>⟨O,Hf (ls:=ls) e h⟩
 | .s E f::ls,e,h=>⟨⟨e.1.1,e.1.2,O,h _ (List.mem_cons_self ..)⟩,Hf (ls:=ls) e.2 fun r hr=>h r (List.mem_cons_of_mem _ hr)⟩
theorem kZ {α:Type} (x:α):∀ (ls:List (LC α)) (e:JW ls),(rM x ls e).length=ls.length
 | [],_=>rfl
 | .v _ _::r,e=>by simp [rM,kZ x r e]
 | .s _ _::r,e=>by simp [rM,kZ x r e.2]
theorem Hg {α:Type} (x:α):∀ (ls:List (LC α)) (e:JW ls),∀ u∈rM x ls e,u.oneCell'=true
 | [],_,_,hu=>by cases hu
 | .v f one::r,e,u,hu=>by
  rcases List.mem_cons.1 hu with rfl | hu
  ·exact one x
  ·exact Hg x r e u hu
 | .s _ f::r,e,u,hu=>by
  rcases List.mem_cons.1 hu with rfl | hu
  ·rfl
  ·exact Hg x r e.2 u hu
def iR {α:Type} (ls:List (LC α)) (ye:List (α × JW ls)):List (List Value):=ye.map fun p=>rM p.1 ls p.2
def ZV {α:Type} (ls:List (LC α)):List (α × JW ls)→List As
 | []=> []
 | p::r=>tS p.1 ls p.2++ZV ls r
theorem X5 {α:Type} (ls:List (LC α)) (ye:List (α × JW ls)):∀ r∈iR ls ye,r.length=ls.length∧∀ u∈r,u.oneCell'=true:=fun r hr=>by
 obtain ⟨p,_,rfl⟩:=List.mem_map.1 hr
 exact ⟨kZ _ _ _,Hg _ _ _⟩
theorem aH {α:Type} {ls:List (LC α)}:∀ {ye:List (α × JW ls)} {p:α × JW ls},p∈ye→∀ x∈tS p.1 ls p.2,x∈ZV ls ye
 | q::r,p,h,x,hx=>by
  rcases List.mem_cons.1 h with rfl | h
  ·exact List.mem_append_left _ hx
  ·exact List.mem_append_right _ (aH h x hx)
theorem X6 {α:Type} {ls:List (LC α)} {ye:List (α × JW ls)} {m:Hp} (h:∀ r,As.ro r∈ZV ls ye→r.p m):fW (yL ls) (ye.map (·.1)) (iR ls ye) m:=by
 refine ⟨by simp [iR],fun j x r hx hr=>?_⟩
 simp only [iR,List.getElem?_map,Option.map_eq_some_iff] at hx hr
 obtain ⟨p,hp,rfl⟩:=hx
 obtain ⟨p',hp',rfl⟩:=hr
 rw [hp] at hp'
 injection hp' with hp'
 subst hp'
 exact Hf p.2 fun r hr=>h r (aH (List.mem_of_getElem? hp) _ hr)
def uD {α:Type} (E:FH α) (e:Nat) (A:Option Addr) (c:Nat) (xs:List α):OY where
 gs:=oO A c
 p _:=True
 loc _ _ _ h:=h
 q m z:=∃ rows,lK E.n e A xs.length c rows m∧fW E xs rows z
 OG m m' z z' hm hz h:=by
  obtain ⟨rows,h1,h2⟩:=h
  exact ⟨rows,(Own E.n e A xs.length c rows).loc m m' hm h1,(dH E xs rows).mono _ _ hz h2⟩
section
variable {P:Program} [T:ET P] {w0:World} {nt:Nat} {Γ Γ':Env} {F F' G R:List As} {Q:Exit→Act→World→Prop} {ops:Array Oper} {rest:List Oper}
variable {d:Nat} {op:Op} {ty:Nat} {pos:String} {af:Array Edge} {X:List Oper→Act→World→Prop}
theorem lW:∀ {G F:List As},iO G=true→zN (G++F)=zN F:=fun {G F} h=>by
 rw [rU,kY fun x hx=>by obtain ⟨r,rfl⟩:=fL h x hx; rfl]
 rfl
theorem Sat.JB {w:World}:∀ (G:List As),iO G=true→(∀ r,As.ro r∈G→r.p (FW (zN F) w))→Sat F w→Sat (G++F) w
 | [],_,_,h=>h
 | .ro r::G,hro,hG,h=>by
  have h2:=Sat.JB G hro (fun r hr=>hG r (List.mem_cons_of_mem _ hr)) h
  refine h2.EO r ?_
  rw [lW (show iO G=true from hro)]
  exact hG r (List.mem_cons_self ..)
 | .res _::_,hro,_,_=>by simp [iO] at hro
theorem lE.ros {G F:List As} (h:lE G F) {w:World} (hf:Sat F w):∀ r,As.ro r∈G→r.p (FW (zN F) w):=fun r hr=>hf.ro (h.mem _ hr)
theorem Sat.UC {α:Type} {E:FH α} {e c:Nat} {A:Option Addr} {xs:List α} {w:World} (h:Sat (.res (uD E e A c xs)::F) w):∃ rows,fW E xs rows (FW (zN (.res (uD E e A c xs)::F)) w)∧Sat (.res (Own E.n e A xs.length c rows)::F) w:=by
 obtain ⟨rows,h1,h2⟩:=h.JI (r:=uD E e A c xs) (List.mem_cons_self ..)
 refine ⟨rows,h2,h.nodup,fun x hx=>?_⟩
 cases hx with
 | head=>exact ⟨(h.all _ (List.mem_cons_self ..)).1,h1,trivial⟩
 | tail _ hx=>exact h.all _ (List.mem_cons_of_mem _ hx)
theorem Sat.QY {α:Type} {E:FH α} {e c n:Nat} {A:Option Addr} {xs:List α} {rows:List (List Value)} {w:World} (h:Sat (.res (Own E.n e A n c rows)::F) w) (hn:n=xs.length) (hr:fW E xs rows (FW (zN (.res (Own E.n e A n c rows)::F)) w)):
  Sat (.res (uD E e A c xs)::F) w:=by
 subst hn
 refine ⟨h.nodup,fun x hx=>?_⟩
 cases hx with
 | head=>exact ⟨(h.all _ (List.mem_cons_self ..)).1,trivial,rows,(h.all _ (List.mem_cons_self ..)).2.1,hr⟩
 | tail _ hx=>exact h.all _ (List.mem_cons_of_mem _ hx)
theorem Sat.LP {α:Type} {w:World} (h:Sat F w) (E:FH α) (e:Nat):Sat (.res (uD E e none 0 [])::F) w:=
 h.FM (Ext.refl w) (uD E e none 0 []) (show (oO none 0).Nodup from pJ _ _) (fun k hk=>absurd ((pU (A:=none) (c:=0)).1 hk).1 (by omega)) trivial ⟨[],lK.nil _ _ _,O,fun j x r hx=>by simp at hx⟩
theorem Sat.IZ {α:Type} {E:FH α} {e c:Nat} {A:Option Addr} {xs:List α} {w:World} (h:Sat (.res (uD E e A c xs)::F) w):Sat (.ro (Sl E A c xs)::F) w:=by
 obtain ⟨rows,h1,h2⟩:=h.UC
 have h3:Sat (.res (Own E.n e A xs.length c rows):: .ro (dH E xs rows)::F) w:=(h2.EO (dH E xs rows) h1).perm (List.Perm.swap ..)
 have h4:=Sat.TW (E:=E) (xs:=xs) h3 O fun m hm=>hm _ (List.mem_cons_self ..) _ O
 exact (mM.k (mM.d mM.z)).sat h4
theorem Sat.XA {α:Type} {ls:List (LC α)} {g e:Nat} {cs:List Value} {ys:List α} {w:World} (ye:List (α × JW ls)) (hcs:(iR ls ye).flatten=cs) (hys:ye.map (·.1)=ys) (hm:Nat.ble ye.length 16777216=true) (hin:lE (ZV ls ye) F) (h:Sat (.res (Box g e cs)::F) w):
  Sat (.res (uD (yL ls) e (some ⟨g,0,none⟩) ys.length ys)::F) w:=by
 subst hys
 have h2:Sat (.res (Own ls.length e (some ⟨g,0,none⟩) ye.length ye.length (iR ls ye))::F) w:=
  Sat.QX hcs (by simp [iR]) (X5 ls ye) (by have:=Nat.le_of_ble_eq_true hm; simp only [maxLen]; omega) h
 have e1:(ye.map (·.1)).length=ye.length:=by simp
 rw [e1]
 exact h2.QY e1.symm (X6 fun r hr=>h2.ro (List.mem_cons_of_mem _ (hin.mem _ hr)))
theorem St.Qi [W:Walk P ops X] {α:Type} {ls:List (LC α)} {t e:Nat} {i j:TI} {x ix:Operand} {A:Option Addr} {n c:Nat} {kk:IntKind} {q:Int} {xs:List α} {y:α} (hy:AU xs q=some y) (hd:Nat.blt d nt=true) (hx:ev Γ x=some (.slice A n c)) (hq:ev Γ ix=some (.int kk q))
  (hm:As.ro (Sl (yL ls) A c xs)∈F) (hlen:n=xs.length) (hi:zY T.tt t=some i) (hdesc:i.desc= .slice e) (hj:zY T.tt e=some j) (hn:j.size=ls.length)
  (k:∀ b o (ex:JW ls),St w0 nt ((d, .pointer (some ⟨b,o,none⟩))::Γ) (.ro (vJ b o (rM y ls ex))::(tS y ls ex++F)) (X rest)):St w0 nt Γ F (X (⟨some d, .indexAddr t x ix,ty,pos,af,none⟩::rest)):=
 St.idx (yL ls) hd hx hq hm hlen hy hi hdesc hj hn fun b o cs a w hs hdf ha hf hw=>by
  have hrel:VZ (FW (zN F) w) y ls cs:=hf.ro (r:=Rel (yL ls) y cs) (by simp)
  obtain ⟨ex,rfl,hex⟩:=YD hrel
  have h0:Sat F w:=hf.tail.tail
  have hc:=hf.ro (r:=vJ b o (rM y ls ex)) (by simp)
  refine k b o ex a w hs hdf ha (Sat.EO (Sat.JB _ (rK ls ex) hex h0) _ ?_) hw
  rw [lW (rK ls ex)]
  exact hc
theorem St.ixC [W:Walk P ops X] {α:Type} {E:FH α} {t e e':Nat} {i j:TI} {x ix:Operand} {A:Option Addr} {n c:Nat} {kk:IntKind} {q:Int} {xs:List α} {y:α} (hy:AU xs q=some y) (hd:Nat.blt d nt=true) (hx:ev Γ x=some (.slice A n c)) (hq:ev Γ ix=some (.int kk q))
    (hm:As.res (uD E e' A c xs)∈F) (hlen:n=xs.length) (hi:zY T.tt t=some i) (hdesc:i.desc= .slice e) (hj:zY T.tt e=some j) (hn:j.size=E.n)
    (k:∀ g,A=some ⟨g,0,none⟩→St w0 nt ((d, .pointer (some ⟨g,q.toNat*E.n,none⟩))::Γ) F (X rest)):St w0 nt Γ F (X (⟨some d, .indexAddr t x ix,ty,pos,af,none⟩::rest)):=
  fun a w hs hdf ha hf hw=>by
    obtain ⟨h0,h1,_⟩:=vG hy
    obtain ⟨rows,hown,_⟩:=hf.JI hm
    subst hlen
    rcases hown.2.2 with ⟨h,_⟩ | ⟨g,cur,fr,_,hA,_⟩
    · omega
    · subst hA
      obtain ⟨dd,hu,hdd⟩:=T.ok.desc hi
      have hadd:(⟨g,0,none⟩:Addr).add (q.toNat*E.n)=⟨g,q.toNat*E.n,none⟩:=tC g _
      refine W.val _ _ _ _ _ (yT O _) (fun w' he=>?_) (k g O _ w (by simp [Act.put,hs]) hdf (ha.put (hs▸Nat.le_of_ble_eq_true hd)) hf hw)
      simp [execOp,Instr.indexAt,ha.eval hx,ha.eval hq,asIntOf,run_underlying hu,TD.of_slice (hdd.trans hdesc),yB T.ok hj,hn,h0,h1,hadd]
theorem St.yu {X:Act→World→Prop} {α:Type} {ls:List (LC α)} {A:Option Addr} {c:Nat} {xs:List α} {q:Int} {y:α} (hm:As.ro (Sl (yL ls) A c xs)∈F) (hy:AU xs q=some y) (k:∀ b o (ex:JW ls),(∃ oA,A=some ⟨b,oA,none⟩∧o=oA+q.toNat*ls.length)→St w0 nt Γ (.ro (vJ b o (rM y ls ex))::(tS y ls ex++F)) X):St w0 nt Γ F X:=
  fun a w hs hdf ha hf hw=>by
    obtain ⟨h0,h1,h2⟩:=vG hy
    have hsl:=hf.ro hm
    cases A with
    | none=>
      have:=hsl.2.2.1 O
      subst this
      simp at h2
    | some ad=>
      obtain ⟨hspot,cs,hrel,hc⟩:=hsl.2.2.2 ad rfl _ _ h2
      obtain ⟨ex,rfl,hex⟩:=YD hrel
      obtain ⟨b,o,s⟩:=ad
      simp only at hspot
      subst hspot
      refine k b _ ex ⟨o,O,O⟩ a w hs hdf ha (Sat.EO (Sat.JB _ (rK ls ex) hex hf) _ ?_) hw
      rw [lW (rK ls ex)]
      exact hc
theorem St.LQ {X:Act→World→Prop} {α:Type} {E:FH α} {A:Option Addr} {c e:Nat} {xs:List α} {q:Int} {y:α} (hm:As.res (uD E e A c xs)∈F) (hy:AU xs q=some y) (k:∀ g,A=some ⟨g,0,none⟩→St w0 nt Γ F X):St w0 nt Γ F X:=
 fun a w hs hdf ha hf hw=>by
  obtain ⟨h0,h1,_⟩:=vG hy
  obtain ⟨rows,hown,_⟩:=hf.JI hm
  rcases hown.2.2 with ⟨h,_⟩ | ⟨g,cur,fr,_,hA,_⟩
  ·omega
  ·exact k g hA a w hs hdf ha hf hw
theorem Rd.KH {α:Type} {t e n':Nat} {i j:TI} {x ix:Operand} {n c g:Nat} {kk:IntKind} {q:Int} {xs:List α} {y:α} (hy:AU xs q=some y) (hx:ev Γ x=some (.slice (some ⟨g,0,none⟩) n c)) (hq:ev Γ ix=some (.int kk q))
  (hlen:n=xs.length) (hi:zY T.tt t=some i) (hdesc:i.desc= .slice e) (hj:zY T.tt e=some j) (hn:j.size=n'):Rd P F Γ (.indexAddr t x ix) (.pointer (some ⟨g,q.toNat*n',none⟩)):=
 fun a w d ty pos af gg ha hf=>by
  obtain ⟨h0,h1,h2⟩:=vG hy
  subst hlen
  obtain ⟨dd,hu,hdd⟩:=T.ok.desc hi
  have hadd:(⟨g,0,none⟩:Addr).add (q.toNat*n')=⟨g,q.toNat*n',none⟩:=tC g _
  simp [execOp,Instr.indexAt,ha.eval hx,ha.eval hq,asIntOf,run_underlying hu,TD.of_slice (hdd.trans hdesc),yB T.ok hj,hn,h0,h1,hadd]
theorem Rd.Qi {α:Type} {t e n':Nat} {i j:TI} {x ix:Operand} {A:Option Addr} {n c:Nat} {kk:IntKind} {q:Int} {xs:List α} {y:α} {b o:Nat} (hA:∃ oA,A=some ⟨b,oA,none⟩∧o=oA+q.toNat*n') (hy:AU xs q=some y) (hx:ev Γ x=some (.slice A n c)) (hq:ev Γ ix=some (.int kk q))
    (hlen:n=xs.length) (hi:zY T.tt t=some i) (hdesc:i.desc= .slice e) (hj:zY T.tt e=some j) (hn:j.size=n'):Rd P F Γ (.indexAddr t x ix) (.pointer (some ⟨b,o,none⟩)):=
  fun a w d ty pos af gg ha hf=>by
    obtain ⟨oA,rfl,rfl⟩:=hA
    obtain ⟨h0,h1,h2⟩:=vG hy
    subst hlen
    obtain ⟨dd,hu,hdd⟩:=T.ok.desc hi
    have hadd:(⟨b,oA,none⟩:Addr).add (q.toNat*n')=⟨b,oA+q.toNat*n',none⟩:=by
      unfold Addr.add
      split
      · rename_i hz; rw [hz]; rfl
      · rfl
    simp [execOp,Instr.indexAt,ha.eval hx,ha.eval hq,asIntOf,run_underlying hu,TD.of_slice (hdd.trans hdesc),yB T.ok hj,hn,h0,h1,hadd]
theorem X7 {α:Type} {E:FH α} {xs:List α} {rows:List (List Value)} {m:Hp} {q:Int} {y:α} (h:fW E xs rows m) (hy:AU xs q=some y):∃ row,rows[q.toNat]? =some row∧E.rel m y row:=by
 obtain ⟨h0,h1,h2⟩:=vG hy
 have hl:q.toNat<rows.length:=by rw [h.1]; omega
 exact ⟨rows[q.toNat],List.getElem?_eq_getElem hl,h.2 _ _ _ h2 (List.getElem?_eq_getElem hl)⟩
theorem St.YE [W:Walk P ops X] {α:Type} {ls:List (LC α)} {t e c g p:Nat} {x:Operand} {q:Int} {y:α} (off:Nat) {xs:List α} (v:JW ls→Value) (hy:AU xs q=some y) (hd:Nat.blt d nt=true) (hx:ev Γ x=some (.pointer (some ⟨g,p,none⟩)))
  (hm:As.res (uD (yL ls) e (some ⟨g,0,none⟩) c xs)∈F) (hpp:p=q.toNat*ls.length+off) (hv:∀ ex,rF T.tt t (rM y ls ex) off=some (v ex))
  (k:∀ ex,St w0 nt ((d,v ex)::Γ) (tS y ls ex++F) (X rest)):St w0 nt Γ F (X (⟨some d, .load t x,ty,pos,af,none⟩::rest)):=
 fun a w hs hdf ha hf hw=>by
  obtain ⟨rows,hown,hrel⟩:=hf.JI hm
  obtain ⟨row,hr,hrow⟩:=X7 hrel hy
  obtain ⟨ex,rfl,hex⟩:=YD hrow
  have hlt:=(hf.all _ hm).1
  refine W.val _ _ _ _ (v ex) (yT O _) (fun w' he=>pI T.ok (by rw [ha.eval hx,hpp]) (hv ex) (eS ((Own ls.length e (some ⟨g,0,none⟩) xs.length c rows).loc (hp w) (hp w') (fun k hk=>(he.block k (hlt k hk)).symm) hown) hr) _ _) ?_
  exact k ex _ w (by simp [Act.put,hs]) hdf (ha.put (hs▸Nat.le_of_ble_eq_true hd)) (Sat.JB _ (rK ls ex) hex hf) hw
theorem St.yw {α:Type} {ls:List (LC α)} {t e c g p:Nat} {x y:Operand} {q:Int} {u u':α} (off:Nat) {i:TI} {xs zs:List α} {v:Value} (Hl:JW ls→JW ls) (hu:AU xs q=some u) (hz:xJ xs q u'=some zs) (hx:ev Γ x=some (.pointer (some ⟨g,p,none⟩))) (hy:ev Γ y=some v)
    (hD:Del F (.res (uD (yL ls) e (some ⟨g,0,none⟩) c xs)) G) (hpp:p=q.toNat*ls.length+off) (hi:zY T.tt t=some i) (hsz:Nat.beq (zc v).length i.size=true) (h1:((zc v).all fun u=>u.oneCell')=true)
    (hs:∀ ex,rA (rM u ls ex) off (zc v) some=some (rM u' ls (Hl ex))) (hin:∀ ex,lE (tS u' ls (Hl ex)) (tS u ls ex++G))
    (k:St w0 nt Γ (.res (uD (yL ls) e (some ⟨g,0,none⟩) c zs)::G) (wpList P ops Q rest)):St w0 nt Γ F (wpList P ops Q (⟨none, .store t x y,ty,pos,af,none⟩::rest)):=
  fun a w hs' hdf ha hf hw=>by
    obtain ⟨rows,hrel,hf2⟩:=(hf.front hD).UC
    obtain ⟨row,hr,hrow⟩:=X7 hrel hu
    obtain ⟨ex,rfl,hex⟩:=YD hrow
    have hf3:Sat (tS u ls ex++(.res (Own (yL ls).n e (some ⟨g,0,none⟩) xs.length c rows)::G)) w:=Sat.JB _ (rK ls ex) hex hf2
    have hf4:Sat (.ro (dH (yL ls) xs rows):: .res (Own (yL ls).n e (some ⟨g,0,none⟩) xs.length c rows)::(tS u ls ex++G)) w:=by
      refine Sat.EO (hf3.perm (List.perm_middle)) (dH (yL ls) xs rows) ?_
      have hb:zN (.res (Own (yL ls).n e (some ⟨g,0,none⟩) xs.length c rows)::(tS u ls ex++G))=zN (.res (uD (yL ls) e (some ⟨g,0,none⟩) c xs)::G):=by
        simp only [zN,lW (rK ls ex)]
        rfl
      rw [hb]
      exact hrel
    refine St.TU (F:=.ro (dH (yL ls) xs rows):: .res (Own ls.length e (some ⟨g,0,none⟩) xs.length c rows)::(tS u ls ex++G)) (G:=.ro (dH (yL ls) xs rows)::(tS u ls ex++G)) off hx hy (.s .z) hr hpp hi hsz h1 (hs ex) ?_ a w hs' hdf ha hf4 hw
    intro a2 w2 hs2 ZW ha2 hf5 hw2
    refine k a2 w2 hs2 ZW ha2 ?_ hw2
    have hR:fW (yL ls) xs rows (FW (zN (.res (Own ls.length e (some ⟨g,0,none⟩) xs.length c (rows.set q.toNat (rM u' ls (Hl ex)))):: .ro (dH (yL ls) xs rows)::(tS u ls ex++G))) w2):=
      hf5.ro (r:=dH (yL ls) xs rows) (by simp)
    unfold xJ at hz
    split at hz
    · injection hz with hz
      subst hz
      rename_i hq
      have h6:Sat (.res (uD (yL ls) e (some ⟨g,0,none⟩) c (xs.set q.toNat u')):: .ro (dH (yL ls) xs rows)::(tS u ls ex++G)) w2:=by
        refine Sat.QY (E:=yL ls) hf5 (by simp) ⟨by simp [hR.1],fun j x r hx hr2=>?_⟩
        rw [List.getElem?_set] at hx hr2
        by_cases hj:q.toNat=j
        · subst hj
          rw [if_pos O] at hx hr2
          split at hx
          · split at hr2
            · injection hx with hx
              injection hr2 with hr2
              subst hx
              subst hr2
              refine Hf (Hl ex) fun r hrm=>hf5.ro (r:=r) ?_
              exact List.mem_cons_of_mem _ (List.mem_cons_of_mem _ ((hin ex).mem _ hrm))
            · cases hr2
          · cases hx
        · rw [if_neg hj] at hx hr2
          exact hR.2 j x r hx hr2
      refine h6.JH ?_ fun y hy=>?_
      · have := h6.nodup
        simpa [zN,lW (rK ls ex),As.gs] using this
      · rcases List.mem_cons.1 hy with rfl | hy
        · exact List.mem_cons_self ..
        · exact List.mem_cons_of_mem _ (List.mem_cons_of_mem _ (List.mem_append_right _ hy))
    · cases hz
theorem St.NQ {α:Type} {E:FH α} {t t2 e m c n:Nat} {i i2 j:TI} {s x:Operand} {A:Option Addr} {xv:Value} {b:Nat} {xs ys zs:List α} (hz:Go.Proofs.YtccooahdinmfmaaGreatDoor.app b xs ys=some zs) (hd:Nat.blt d nt=true) (hs:ev Γ s=some (.slice A n c)) (hx:ev Γ x=some xv)
    (hD:Del F (.res (uD E e A c xs)) G) (hlen:n=xs.length) (hi:zY T.tt t=some i) (hdesc:i.desc= .slice e) (hj:zY T.tt e=some j) (hsz:j.size=E.n) (hby:j.bytes=b) (hzs:Nat.beq (zc j.zero).length E.n=true)
    (hm:m=ys.length) (hsrc:∀ w,Sat F w→∃ rows,fW E ys rows (FW (zN F) w)∧(∀ r∈rows,r.length=E.n∧∀ u∈r,u.oneCell'=true)∧OA P E.n xv m rows.flatten w) (hi2:zY T.tt t2=some i2) (hd2:lm i2.desc=true)
    (k:∀ A' c',St w0 nt ((d, .slice A' zs.length c')::Γ) (.res (uD E e A' c' zs)::G) (wpList P ops Q rest)):
    St w0 nt Γ F (wpList P ops Q (⟨some d, .call { callee:=.builtin .append,args:=#[s,x],argTypes:=#[t,t2] },ty,pos,af,none⟩::rest)):=
  fun a w hs' hdf ha hf hw=>by
    obtain ⟨rfl,h2,h3⟩:=S9 hz
    subst hlen; subst hm; subst hby
    obtain ⟨news,hn1,hn2,hn3⟩:=hsrc w hf
    have OZ:=hf.front hD
    obtain ⟨rows,hrel,hf2⟩:=OZ.UC
    have hb:zN F=zN F:=rfl
    have hn1':fW E ys news (FW (zN (.res (Own E.n e A xs.length c rows)::G)) w):=(dH E ys news).mono _ _ (cX w fun kk hk=>(I4 hD.perm).mem_iff.2 hk) hn1
    have hf3:Sat (.ro (dH E ys news):: .ro (dH E xs rows):: .res (Own E.n e A xs.length c rows)::G) w:=(hf2.EO (dH E xs rows) hrel).EO (dH E ys news) hn1'
    refine O8 (F:=.ro (dH E ys news):: .ro (dH E xs rows):: .res (Own E.n e A xs.length c rows)::G) news hs' hdf ha hf3 hw hd hs hx (FX 2 O) hi hdesc hj hsz hzs hn3 O hn1.1 hn2 (by simpa [maxLen] using h3) h2 hi2 hd2 fun A' c'=>?_
    intro a2 w2 hs2 ZW ha2 hf5 hw2
    have e1:(xs++ys).length=xs.length+ys.length:=by simp
    refine (e1▸k A' c') a2 w2 hs2 ZW ha2 ?_ hw2
    have hR1:=hf5.ro (r:=dH E xs rows) (by simp)
    have hR2:=hf5.ro (r:=dH E ys news) (by simp)
    have h6:Sat (.res (uD E e A' c' (xs++ys)):: .ro (dH E ys news):: .ro (dH E xs rows)::G) w2:=by
      refine Sat.QY (E:=E) hf5 e1.symm ⟨by simp [hR1.1,hR2.1],fun j x r hx hr=>?_⟩
      by_cases hj:j<xs.length
      · rw [List.getElem?_append_left hj] at hx
        rw [List.getElem?_append_left (by rw [hR1.1]; exact hj)] at hr
        exact hR1.2 j x r hx hr
      · rw [List.getElem?_append_right (by omega)] at hx
        rw [List.getElem?_append_right (by rw [hR1.1]; omega),hR1.1] at hr
        exact hR2.2 _ x r hx hr
    exact (mM.k (mM.d (mM.d mM.z))).sat h6
theorem Ho {α:Type} {E:FH α} {A:Option Addr} {c:Nat} {ys:List α} (hm:As.ro (Sl E A c ys)∈F):∀ w,Sat F w→∃ rows,fW E ys rows (FW (zN F) w)∧(∀ r∈rows,r.length=E.n∧∀ u∈r,u.oneCell'=true)∧OA P E.n (.slice A ys.length c) ys.length rows.flatten w:=fun w hf=>by
 have h:=hf.ro hm
 obtain ⟨rows,h1,h2,h3⟩:=IL.rows (E:=E) h
 refine ⟨rows,h1,h2,IL.src (E:=E) h2 h1.1 h.2.2.1 fun ad ha hne=>?_⟩
 obtain ⟨h4,h5⟩:=h3 ad ha hne
 exact ⟨h4,fun i u hu=>bJ (H8 _ _) (h5 i u hu)⟩
theorem zf {α:Type} {ls:List (LC α)} {g e m c:Nat} {cs:List Value} {ys:List α} (ye:List (α × JW ls)) (hm:As.res (Box g e cs)∈F) (hcs:(iR ls ye).flatten=cs) (hys:ye.map (·.1)=ys) (hl:m=ys.length) (hin:lE (ZV ls ye) F):
  ∀ w,Sat F w→∃ rows,fW (yL ls) ys rows (FW (zN F) w)∧(∀ r∈rows,r.length=(yL ls).n∧∀ u∈r,u.oneCell'=true)∧OA P (yL ls).n (.slice (some ⟨g,0,none⟩) m c) m rows.flatten w:=fun w hf=>by
 subst hys
 subst hcs
 subst hl
 have hok:=X5 ls ye
 refine ⟨iR ls ye,X6 (hin.ros hf),hok,O9 hm (by rw [vV hok]; simp [iR,yL]) ?_ w hf⟩
 rw [List.all_eq_true]
 intro u hu
 obtain ⟨r,hr,hur⟩:=List.mem_flatten.1 hu
 exact (hok r hr).2 u hur
def mg:Bool→List Value→Value
 | true,l=>.agg l.toArray
 | false, [v]=>v
 | false,_=>undef
theorem X8 {α:Type} {ls:List (LC α)} {ye:List (α × JW ls)} {ys:List α} {q:Int} {y:α} (hys:ye.map (·.1)=ys) (hy:AU ys q=some y):0≤q∧q<(ye.length:Int)∧∃ ex,ye[q.toNat]? =some (y,ex):=by
 subst hys
 obtain ⟨h0,h1,h2⟩:=vG hy
 simp only [List.length_map,List.getElem?_map,Option.map_eq_some_iff] at h1 h2
 obtain ⟨⟨y',ex⟩,h3,h4⟩:=h2
 subst h4
 exact ⟨h0,h1,ex,h3⟩
theorem X9 {α:Type} {ls:List (LC α)} {ye:List (α × JW ls)} {n:Nat} {y:α} {ex:JW ls} (h:ye[n]? =some (y,ex)):∃ pre post,(iR ls ye).flatten=pre++(rM y ls ex++post)∧pre.length=n*ls.length:=by
 induction ye generalizing n with
 | nil=>simp at h
 | cons p r ih=>
  cases n with
  | zero=>
   simp at h
   subst h
   exact ⟨[],(iR ls r).flatten,by simp [iR],by simp⟩
  | succ n=>
   obtain ⟨pre,post,h1,h2⟩:=ih (by simpa using h)
   refine ⟨rM p.1 ls p.2++pre,post,?_,?_⟩
   ·show rM p.1 ls p.2++(iR ls r).flatten=_
    rw [h1]
    simp
   ·rw [List.length_append,kZ,h2,Nat.add_mul]
    omega
theorem zQg {t n:Nat} {j:TI} {cs pre row post:List Value} (hj:zY T.tt t=some j) (hn:j.size=row.length) (h1:eV j.desc=false→row.length=1) (hcs:cs=pre++(row++post)) (hp:pre.length=n):rF T.tt t cs n=some (mg (eV j.desc) row):=by
 subst hcs
 subst hp
 unfold rF
 rw [hj]
 simp only
 cases hb:eV j.desc with
 | true=>
  simp only [mg]
  have:∀ (l r:List Value) (k:List Value→Option Value),VS (l++r) l.length k=k l:=by
   intro l
   induction l with
   | nil=>intro r k; simp [VS]
   | cons x l ih=>intro r k; simp only [List.cons_append,List.length_cons,VS]; exact ih r _
  rw [List.drop_left,hn,this]
 | false=>
  obtain ⟨v,rfl⟩:=List.length_eq_one_iff.1 (h1 hb)
  simp [mg,XU]
theorem St.ixV [W:Walk P ops X] {α:Type} {ls:List (LC α)} {t e len:Nat} {i j:TI} {x ix:Operand} {cs:List Value} {kk:IntKind} {q:Int} (b:Bool) (ye:List (α × JW ls)) {ys:List α} {y:α} (hy:AU ys q=some y) (hd:Nat.blt d nt=true) (hx:ev Γ x=some (.agg cs.toArray)) (hq:ev Γ ix=some (.int kk q))
    (hys:ye.map (·.1)=ys) (hcs:(iR ls ye).flatten=cs) (hin:lE (ZV ls ye) F) (hi:zY T.tt t=some i) (hdesc:i.desc= .array len e) (hlen:len=ye.length) (hj:zY T.tt e=some j) (hn:j.size=ls.length) (hb:eV j.desc=b) (h1:b=false→ls.length=1)
    (k:∀ ex,St w0 nt ((d,mg b (rM y ls ex))::Γ) (tS y ls ex++F) (X rest)):St w0 nt Γ F (X (⟨some d, .index t x ix,ty,pos,af,none⟩::rest)):=
  fun a w hs hdf ha hf hw=>by
    obtain ⟨h0,hlt,ex,hex⟩:=X8 hys hy
    obtain ⟨pre,post,hp1,hp2⟩:=X9 hex
    have PZ:∀ r,As.ro r∈tS y ls ex→r.p (FW (zN F) w):=fun r hr=>hf.ro (hin.mem _ (aH (List.mem_of_getElem? hex) _ hr))
    subst hb
    refine W.val _ _ _ _ (mg (eV j.desc) (rM y ls ex)) (yT O _) (fun w' _=>?_) (k ex _ w (by simp [Act.put,hs]) hdf (ha.put (hs▸Nat.le_of_ble_eq_true hd)) (Sat.JB _ (rK ls ex) PZ hf) hw)
    obtain ⟨dd,hu,hdd⟩:=T.ok.desc hi
    have hpp:rF T.tt e cs (q.toNat*j.size)=some (mg (eV j.desc) (rM y ls ex)):=
      zQg hj (by rw [hn,kZ]) (fun hh=>by rw [kZ]; exact h1 hh) (hcs▸hp1) (by rw [hp2,hn])
    have hlt':q<(len:Int):=by rw [hlen]; exact hlt
    simp [execOp,ha.eval hx,ha.eval hq,Instr.index,asIntOf,run_underlying hu,TD.of_array (hdd.trans hdesc),h0,hlt',yB T.ok hj,fN T.ok hpp]
theorem St.Qj [W:Walk P ops X] {α:Type} {t e len g o sz:Nat} {i j:TI} {x ix:Operand} {kk:IntKind} {q:Int} {ys:List α} {y:α} (hy:AU ys q=some y) (hd:Nat.blt d nt=true) (hx:ev Γ x=some (.pointer (some ⟨g,o,none⟩))) (hq:ev Γ ix=some (.int kk q))
  (hi:zY T.tt t=some i) (hdesc:i.desc= .array len e) (hlen:len=ys.length) (hj:zY T.tt e=some j) (hn:j.size=sz)
  (k:St w0 nt ((d, .pointer (some ⟨g,o+q.toNat*sz,none⟩))::Γ) F (X rest)):St w0 nt Γ F (X (⟨some d, .indexAddr t x ix,ty,pos,af,none⟩::rest)):=by
 obtain ⟨h0,h1,_⟩:=vG hy
 refine St.val hd (fun a w ha _=>?_) k
 obtain ⟨dd,hu,hdd⟩:=T.ok.desc hi
 have hadd:(⟨g,o,none⟩:Addr).add (q.toNat*sz)=⟨g,o+q.toNat*sz,none⟩:=by
  unfold Addr.add
  split
  ·rename_i h; rw [h]; rfl
  ·rfl
 simp [execOp,ha.eval hx,ha.eval hq,Instr.indexAt,asIntOf,run_underlying hu,TD.of_array (hdd.trans hdesc),h0,hlen,h1,Instr.sureAddr,yB T.ok hj,hn,hadd]
theorem St.Qk [W:Walk P ops X] {α:Type} {ls:List (LC α)} {t g t' p o:Nat} {x:Operand} {q:Int} {cs:List Value} (off:Nat) (pre post:List Value) (ye:List (α × JW ls)) {ys:List α} {y:α} (v:JW ls→Value) (hy:AU ys q=some y) (hd:Nat.blt d nt=true) (hx:ev Γ x=some (.pointer (some ⟨g,p,none⟩)))
  (hm:As.res (Box g t' cs)∈F) (hcs:pre++((iR ls ye).flatten++post)=cs) (ho:pre.length=o) (hys:ye.map (·.1)=ys) (hin:lE (ZV ls ye) F) (hpp:p=o+q.toNat*ls.length+off) (hv:∀ ex,rF T.tt t (rM y ls ex) off=some (v ex))
  (k:∀ ex,St w0 nt ((d,v ex)::Γ) (tS y ls ex++F) (X rest)):St w0 nt Γ F (X (⟨some d, .load t x,ty,pos,af,none⟩::rest)):=
 fun a w hs hdf ha hf hw=>by
  obtain ⟨h0,hlt,ex,hex⟩:=X8 hys hy
  obtain ⟨pre2,Y1,hp1,hp2⟩:=X9 hex
  have PZ:∀ r,As.ro r∈tS y ls ex→r.p (FW (zN F) w):=fun r hr=>hf.ro (hin.mem _ (aH (List.mem_of_getElem? hex) _ hr))
  refine W.val _ _ _ _ (v ex) (yT O _) (fun w' he=>pI (o:=o+q.toNat*ls.length) T.ok (by rw [ha.eval hx,hpp]) (hv ex) (fun i u hu=>?_) _ _) (k ex _ w (by simp [Act.put,hs]) hdf (ha.put (hs▸Nat.le_of_ble_eq_true hd)) (Sat.JB _ (rK ls ex) PZ hf) hw)
  refine Box.cell ((hf.ext he).res hm) ?_
  have hi:=(List.getElem?_eq_some_iff.1 hu).1
  rw [←hcs,List.getElem?_append_right (by omega),hp1,List.append_assoc,List.getElem?_append_right (by omega),List.append_assoc,List.getElem?_append_left (by omega),←hu]
  congr 1
  omega
theorem Rd.JK {t yt:Nat} {x y z:ByteArray} {ox oy:Operand} (h:Go.Proofs.YtccooahdinmfmaaGreatDoor.JK x y=some z) (hx:ev Γ ox=some (.string x)) (hy:ev Γ oy=some (.string y)):Rd P F Γ (.binOp .add t ox oy yt) (.string z):=fun a w d ty pos af g ha _=>by
 unfold Go.Proofs.YtccooahdinmfmaaGreatDoor.JK at h
 split at h
 ·rename_i hl
  injection h with h; subst h
  have h1:¬ (((x.size+y.size:Nat):Int)>IntKind.i64.max):=by simp only [IntKind.max,IntKind.signed,IntKind.bits]; simp; omega
  have hg:(eqGuard .add t ox oy (.string x) (.string y)).run P w= .ok () w:=rfl
  simp only [execOp,ha.eval hx,ha.eval hy,Sem.run_bind,hg,Result.andThen_ok,binOp,Op.stringOp,if_neg h1,Sem.run_pure]
 ·cases h
theorem Rd.DU {t:Nat} {i:TI} {s:ByteArray} {kk:IntKind} {q z:Int} {ox oy:Operand} (h:Go.Proofs.YtccooahdinmfmaaGreatDoor.DU s q=some z) (hx:ev Γ ox=some (.string s)) (hy:ev Γ oy=some (.int kk q)) (hi:zY T.tt t=some i) (hdesc:i.desc= .string):Rd P F Γ (.index t ox oy) (.int .u8 z):=fun a w d ty pos af g ha _=>by
 unfold Go.Proofs.YtccooahdinmfmaaGreatDoor.DU at h
 split at h
 ·rename_i h0
  simp only [Option.map_eq_some_iff] at h
  obtain ⟨b,hb,rfl⟩:=h
  obtain ⟨dd,hu,hdd⟩:=T.ok.desc hi
  simp [execOp,ha.eval hx,ha.eval hy,Instr.index,asIntOf,run_underlying hu,TD.of_string (hdd.trans hdesc),h0,hb]
 ·cases h
theorem Rd.FY {t:Nat} {i:TI} {s z:ByteArray} {lo hi:Option Operand} {l h:Int} {ox:Operand} (hz:Go.Proofs.YtccooahdinmfmaaGreatDoor.FY s l h=some z) (hx:ev Γ ox=some (.string s)) (hl:rC Γ 0 lo=some l) (hh:rC Γ s.size hi=some h) (hi':zY T.tt t=some i) (hdesc:i.desc= .string):Rd P F Γ (.slice t ox lo hi none) (.string z):=fun a w d ty pos af g ha _=>by
 unfold Go.Proofs.YtccooahdinmfmaaGreatDoor.FY at hz
 split at hz
 ·rename_i hc
  injection hz with hz; subst hz
  obtain ⟨dd,hu,hdd⟩:=T.ok.desc hi'
  have hb:=gX (P:=P) false ha hl hh hc.1 hc.2.1 hc.2.2 (Nat.le_refl s.size) w
  simp [execOp,Instr.sliceAt,Instr.slice,ha.eval hx,run_underlying hu,TD.of_string (hdd.trans hdesc),hb]
 ·cases hz
theorem Rd.vw {s t e:Nat} {i j l:TI} {A:Option Addr} {n c:Nat} {xs:List Int} {ox:Operand} (hm:As.ro (BP AP A c xs)∈F) (hx:ev Γ ox=some (.slice A n c)) (hlen:n=xs.length) (hi:zY T.tt s=some i) (hdesc:i.desc= .slice e) (hj:zY T.tt e=some j) (hjd:j.desc= .int .u8) (hl:zY T.tt t=some l) (hld:l.desc= .string):
  Rd P F Γ (.convert s t ox) (.string (TA xs)):=fun a w d ty pos af g ha hf=>by
 obtain ⟨d1,hu1,hd1⟩:=T.ok.desc hi
 obtain ⟨d2,hu2,hd2⟩:=T.ok.desc hj
 obtain ⟨d3,hu3,hd3⟩:=T.ok.desc hl
 subst hlen
 have:=run_convert_bytes_string (P:=P) w s t e A xs.length c (TD.of_slice (hd1.trans hdesc)▸hu1) (TD.of_int (hd2.trans hjd)▸hu2) (TD.of_string (hd3.trans hld)▸hu3)
 simp only [execOp,ha.eval hx,Sem.run_bind,this,Q9 (OB (E:=AP) hm w hf),Result.andThen_ok,Sem.run_pure]
theorem Rd.quo {t yt:Nat} {k:IntKind} {x y z:Int} {ox oy:Operand} (h:Gu k x y=some z) (hx:ev Γ ox=some (.int k x)) (hy:ev Γ oy=some (.int k y)):Rd P F Γ (.binOp .quo t ox oy yt) (.int k z):=
 Rd.p (by
  unfold Gu at h
  split at h
  ·cases h
  ·rename_i h0; injection h with h; subst h; simp [ML,hx,hy,TR,ZH,h0])
theorem Rd.rem {t yt:Nat} {k:IntKind} {x y z:Int} {ox oy:Operand} (h:TV x y=some z) (hx:ev Γ ox=some (.int k x)) (hy:ev Γ oy=some (.int k y)):Rd P F Γ (.binOp .rem t ox oy yt) (.int k z):=
 Rd.p (by
  unfold TV at h
  split at h
  ·cases h
  ·rename_i h0; injection h with h; subst h; simp [ML,hx,hy,TR,ZH,h0])
theorem Rd.shl {t yt:Nat} {k k':IntKind} {x y z:Int} {ox oy:Operand} (h:PG k x y=some z) (hx:ev Γ ox=some (.int k x)) (hy:ev Γ oy=some (.int k' y)):Rd P F Γ (.binOp .shl t ox oy yt) (.int k z):=
 Rd.p (by
  unfold PG at h
  split at h
  ·cases h
  ·rename_i h0; injection h with h; subst h; simp [ML,hx,hy,TR,XV,h0])
theorem Rd.shr {t yt:Nat} {k k':IntKind} {x y z:Int} {ox oy:Operand} (h:WV k x y=some z) (hx:ev Γ ox=some (.int k x)) (hy:ev Γ oy=some (.int k' y)):Rd P F Γ (.binOp .shr t ox oy yt) (.int k z):=
 Rd.p (by
  unfold WV at h
  split at h
  ·cases h
  ·rename_i h0; injection h with h; subst h; simp [ML,hx,hy,TR,XV,h0])
theorem St.LU {X:Act→World→Prop} {α:Type} {E:FH α} {A:Option Addr} {c:Nat} {xs ys:List α} {l h:Int} (hm:As.ro (Sl E A c xs)∈F) (hz:Go.Proofs.YtccooahdinmfmaaGreatDoor.sub xs l h=some ys)
  (k:∀ A' c',(A'=(if c=l.toNat then A else A.map (·.add (l.toNat*E.n)))∧c'=c - l.toNat)→St w0 nt Γ (.ro (Sl E A' c' ys)::F) X):St w0 nt Γ F X:=
 fun a w hs hdf ha hf hw=>k _ _ ⟨O,O⟩ a w hs hdf ha (hf.EO (Sl E _ _ ys) (IL.sub (hf.ro hm) hz)) hw
theorem Sat.QA {α:Type} {E:FH α} {A A':Option Addr} {c c':Nat} {xs ys:List α} {l h:Int} {w:World} (hA:A'=(if c=l.toNat then A else A.map (·.add (l.toNat*E.n)))∧c'=c - l.toNat) (hm:As.ro (Sl E A c xs)∈F) (hz:Go.Proofs.YtccooahdinmfmaaGreatDoor.sub xs l h=some ys) (hf:Sat F w):Sat (.ro (Sl E A' c' ys)::F) w:=by
 obtain ⟨rfl,rfl⟩:=hA
 exact hf.EO (Sl E _ _ ys) (IL.sub (hf.ro hm) hz)
theorem Rd.sub {α:Type} {E:FH α} {t e:Nat} {i j:TI} {A A':Option Addr} {n c c':Nat} {xs ys:List α} {lo hi:Option Operand} {l h:Int} {ox:Operand} (hA:A'=(if c=l.toNat then A else A.map (·.add (l.toNat*E.n)))∧c'=c - l.toNat) (hz:Go.Proofs.YtccooahdinmfmaaGreatDoor.sub xs l h=some ys) (hm:As.ro (Sl E A c xs)∈F) (hx:ev Γ ox=some (.slice A n c)) (hlen:n=xs.length)
  (hl:rC Γ 0 lo=some l) (hh:rC Γ (n:Int) hi=some h) (hi':zY T.tt t=some i) (hdesc:i.desc= .slice e) (hj:zY T.tt e=some j) (hn:j.size=E.n):Rd P F Γ (.slice t ox lo hi none) (.slice A' ys.length c'):=fun a w d ty pos af g ha hf=>by
 obtain ⟨rfl,rfl⟩:=hA
 obtain ⟨h0,h1,h2,_⟩:=vg hz
 have hyl:=vk hz
 have hsl:IL E A c xs (FW (zN F) w):=hf.ro hm
 have hcap:=hsl.1
 subst hlen
 have ZQ:ys.length=h.toNat - l.toNat:=by omega
 obtain ⟨dd,hu,hdd⟩:=T.ok.desc hi'
 have hb:=gX (P:=P) true ha hl hh h0 h1 h2 hcap w
 simp [execOp,Instr.sliceAt,Instr.slice,ha.eval hx,run_underlying hu,TD.of_slice (hdd.trans hdesc),hb,yB T.ok hj,hn,ZQ]
section
variable {C:World→Prop} {Qn:Act→World→Prop} {iz:Nat} {tz:Tg} {Hq t1 t2:Tr}
theorem St.GZ (h1:St w0 nt Γ F (FZ P ops C Qn t1)) (h2:St w0 nt Γ F (FZ P ops C Qn t2)):St w0 nt Γ F (FZ P ops C Qn (.alt t1 t2)):=
 fun a w hs hd ha hf hw=>⟨h1 a w hs hd ha hf hw,h2 a w hs hd ha hf hw⟩
theorem St.share {ε:Type} {X Y:Act→World→Prop} (Γs:ε→Env) (Fs:ε→List As) (h1:(∀ Γ₁ F₁ e,PS (Γs e) Γ₁→(∀ w,Sat F₁ w→Sat (Fs e) w)→St w0 nt Γ₁ F₁ Y)→St w0 nt Γ F X) (h2:∀ e,St w0 nt (Γs e) (Fs e) Y):St w0 nt Γ F X:=
 h1 fun _ _ e hΓ hF=>St.weak hΓ hF (h2 e)
theorem St.splitB {X:Act→World→Prop} {dj:Nat} (c:Bool) (hg:get Γ dj=some (.bool c)) (ht:c=true→St w0 nt ((dj, .bool true)::Γ) F X) (OZ:c=false→St w0 nt ((dj, .bool false)::Γ) F X):St w0 nt Γ F X:=
 fun a w hs hdf ha hf hw=>by
  cases c
  ·exact OZ O a w hs hdf (At.cons (ha dj _ hg) ha) hf hw
  ·exact ht O a w hs hdf (At.cons (ha dj _ hg) ha) hf hw
theorem St.LV {dst:Option Nat} {j dj:Nat} {b:Bool} (hj:VT ops j=some dj) (hg:get Γ dj=some (.bool b)) (k:St w0 nt Γ F (FZ P ops C Qn (.st ⟨tz,iz,⟨dst,op,ty,pos,af,none⟩⟩ Hq))):
  St w0 nt Γ F (FZ P ops C Qn (.st ⟨tz,iz,⟨dst,op,ty,pos,af,some (j,b)⟩⟩ Hq)):=
 fun a w hs hdf ha hf hw=>by
  have h:=k a w hs hdf ha hf hw
  have e1:Region.wanted ⟨dst,op,ty,pos,af,some (j,b)⟩ (yielded ops a.tmps)=true:=by simp [Region.wanted,aQ ha hj hg]
  have e2:Region.wanted ⟨dst,op,ty,pos,af,none⟩ (yielded ops a.tmps)=true:=yT O _
  unfold FZ qS at h ⊢
  rw [if_pos e2] at h
  rw [if_pos e1]
  exact h
theorem St.zh {d' j dj:Nat} {b:Bool} {v:Value} (hd:Nat.blt d' nt=true) (hj:VT ops j=some dj) (hg:get Γ dj=some v) (hn:dD v b=true) (k:St w0 nt ((d',undef)::Γ) F (FZ P ops C Qn Hq)):
    St w0 nt Γ F (FZ P ops C Qn (.st ⟨tz,iz,⟨some d',op,ty,pos,af,some (j,b)⟩⟩ Hq)):=
  fun a w hs hdf ha hf hw=>by
    have e1:¬ Region.wanted ⟨some d',op,ty,pos,af,some (j,b)⟩ (yielded ops a.tmps)=true:=by
      simp only [Region.wanted,aQ ha hj hg]
      cases v <;> simp_all [dD]
    unfold FZ qS
    rw [if_neg e1]
    exact k _ w (by simp [Act.put,hs]) hdf (ha.put (hs▸Nat.le_of_ble_eq_true hd)) hf hw
end
theorem St.DV {c:Code} (h:St w0 nt Γ F (c.wp P (Exit.then (Q .normal) Q))):St w0 nt Γ F (c.wp P Q):=
 fun a w hs hd ha hf hw=>wp_mono (h a w hs hd ha hf hw) fun e a' w' hq=>by
  cases e <;> exact hq
end
open Go Go.ChangeShapes Go.WideShapes Go.RowKit
def Ql {α:Type} (P:Program) (E:FH α) (φ:α→Prop) (t:TypeId):Prop:=∀ {H:Type} {enc:TypeId × Value→H} {w:World} {base:Nat} {sp:Nat→Bool} {held:Bool} {fuel:Nat} {cs:List Value} {x:DataW H × List MemPlace},
 DataW.trod enc P w base sp held fuel t cs=some x→∃ y:α,E.rel (hp w) y cs∧φ y
abbrev WA {α:Type} (P:Program) (ls:List (LC α)) (φ:α→Prop) (t:TypeId):Prop:=Ql P (yL ls) φ t
section
variable {H:Type} {enc:TypeId × Value→H} {P:Program} {w:World} {base:Nat} {sp:Nat→Bool} {held:Bool} {fuel:Nat} {cs:List Value} {x:DataW H × List MemPlace}
theorem Qm {k:IntKind} {t:TypeId} (ht:P.underlying t=some (.int k)):WA P [.v (fun x=>.int k x) (fun _=>O)] (PD k) t:=fun h=>by
 obtain ⟨n,h1,_,h3⟩:=DataW.trod_int ht h
 subst h1
 exact ⟨n,⟨O,trivial⟩,(Lit.wf_int_iff _ _).1 h3⟩
theorem Qo {α:Type} {E:Enc α} {ls:List (LC α)} {φ:α→Prop} {t:TypeId} (h:WA P ls φ t) (he:∀ y ex,rM y ls ex=E.enc y):Ql P (DC E) φ t:=fun hd=>by
 obtain ⟨y,h1,h2⟩:=h hd
 obtain ⟨ex,h3,_⟩:=YD h1
 exact ⟨y,h3.trans (he y ex),h2⟩
theorem zPh {α:Type} {E:FH α} {φ:α→Prop} {ad:Addr} {n:Nat} (hpos:0<E.n) (hr:∀ i,i<n→∃ (y:α) (cs:List Value),E.rel (hp w) y cs∧φ y∧∀ j,j<E.n→w.cell? (ad.add (i*E.n+j))=cs[j]?):
  ∃ xs:List α,xs.length=n∧(∀ x∈xs,φ x)∧∀ j x,xs[j]? =some x→ad.spot=none∧∃ cs,E.rel (hp w) x cs∧∀ i u,cs[i]? =some u→jN (hp w) ad.block (ad.off+j*E.n+i)=some u:=by
 induction n with
 | zero=>exact ⟨[],O,(fun x h=>by cases h),fun j x h=>by simp at h⟩
 | succ n ih=>
  obtain ⟨xs,h1,hφ,h2⟩:=ih fun i hi=>hr i (by omega)
  obtain ⟨y,cy,hrel,hy0,hy⟩:=hr n (by omega)
  refine ⟨xs++ [y],by simp [h1],fun x hx=>?_,fun j x hj=>?_⟩
  ·rcases List.mem_append.1 hx with hx | hx
   ·exact hφ x hx
   ·simp only [List.mem_singleton] at hx
    subst hx
    exact hy0
  by_cases hjn:j<n
  ·rw [List.getElem?_append_left (by omega)] at hj
   exact h2 j x hj
  ·have hl:=(List.getElem?_eq_some_iff.1 hj).1
   simp only [List.length_append,List.length_singleton,h1] at hl
   obtain rfl:j=n:=by omega
   rw [←h1] at hj
   simp only [List.getElem?_append_right (Nat.le_refl _),Nat.sub_self,List.getElem?_cons_zero,Option.some.injEq] at hj
   subst hj
   have hspot:ad.spot=none:=by
    cases hsp:ad.spot with
    | none=>rfl
    | some q=>
     obtain ⟨y0,c0,zn,_,hc0⟩:=hr 0 (by omega)
     have h:=hc0 0 hpos
     have hl0:=E.len _ _ _ zn
     rw [List.getElem?_eq_getElem (by omega),show 0*E.n+0=0 by omega] at h
     have e:ad.add 0=ad:=rfl
     rw [e] at h
     unfold World.cell? at h
     split at h
     ·rw [hsp] at h; simp at h
     ·cases h
   refine ⟨hspot,cy,hrel,fun i u hu=>?_⟩
   have hi:i<E.n:=by rw [←E.len _ _ _ hrel]; exact (List.getElem?_eq_some_iff.1 hu).1
   have h:=hy i hi
   rw [hu] at h
   rw [Gj]
   rw [←h]
   congr 1
   obtain ⟨b,o,s⟩:=ad
   simp only at hspot
   subst hspot
   unfold Addr.add
   split
   ·rename_i hz; simp only [Addr.mk.injEq,true_and,and_true]; omega
   ·simp only [Addr.mk.injEq,true_and,and_true]; omega
theorem Qp {α:Type} {E:FH α} {φ:α→Prop} {t e:TypeId} (ht:P.underlying t=some (.slice e)) (hC:P.cellsOf e=E.n) (hpos:0<E.n) (hE:Ql P E φ e):WA P [.s E (fun x=>x)] (RX φ) t:=fun {H enc w base sp held fuel cs x} hf=>by
 rcases Deep.open_slice ht hf with ⟨h1,_⟩ | ⟨a,len,cap,m,n,D,Pl,hcs,hb,hl,hm,hmm,_,hi⟩
 ·subst h1
  exact ⟨[],⟨⟨none,0,O,by simp,by simp [maxLen],fun _=>O,(fun ad h=>by cases h)⟩,trivial⟩,(fun x h=>by cases h),by simp⟩
 ·subst hcs
  have hlm:len≤m:=by rw [hmm]; split <;> omega
  obtain ⟨xs,h1,hφ,h2⟩:=zPh (w:=w) (E:=E) (φ:=φ) (ad:=a) (n:=len) hpos (fun i hin=>by
   obtain ⟨cs',hc,ht'⟩:=hi i (by omega)
   obtain ⟨y,hy,hy2⟩:=hE ht'
   obtain ⟨_,_,hat⟩:=World.cells?_some hc
   refine ⟨y,cs',hy,hy2,fun j hj=>?_⟩
   have:=hat j (by omega)
   rw [Deep.add_add,hC] at this
   exact this)
  subst h1
  refine ⟨xs,⟨⟨some a,cap,O,hl,hm,(fun h=>by cases h),fun ad had=>?_⟩,trivial⟩,hφ,by omega⟩
  injection had with had
  subst had
  exact h2
theorem Qq {α:Type} {ls:List (LC α)} {φ:α→Prop} {t:TypeId} {v:Value} {d:DataW H} {ps:List MemPlace} (hE:WA P ls φ t) (h:DataW.Trod enc P w base sp held t v d ps):
  ∃ (y:α) (ex:JW ls),v.cells.toList=rM y ls ex∧φ y∧∀ r,As.ro r∈tS y ls ex→r.p (hp w):=by
 obtain ⟨fuel,hf⟩:=h
 obtain ⟨y,h1,h2⟩:=hE hf
 obtain ⟨ex,h3,h4⟩:=YD h1
 exact ⟨y,ex,h3,h2,h4⟩
end
def fJ (s:ByteArray) (c:Int):Int:=Lib.indexByte s.data.toList c.toNat.toUInt8
def yV {α:Type} (n:Nat) (xs:List α):Option (List α):=if xs.length=n then some xs else none
theorem zo {α:Type} {n:Nat} {xs ys:List α} (h:yV n xs=some ys):ys=xs∧xs.length=n:=by
 unfold yV at h
 split at h
 ·rename_i hn; injection h with h; exact ⟨h.symm,hn⟩
 ·cases h
theorem aR {α:Type} {n:Nat} {xs ys:List α} (h:yV n xs=some ys):ys.length=n:=by
 obtain ⟨rfl,hn⟩:=zo h
 exact hn
theorem fO {α:Type} {xs zs:List α} {q:Int} {v:α} (h:xJ xs q v=some zs):zs.length=xs.length:=by
 unfold xJ at h
 split at h
 ·injection h with h
  subst h
  simp
 ·cases h
def Qr {ρ σ β:Type} (w:ρ→β) (o:ρ ⊕ σ) (f:σ→Option β):Option β:=match o with | .inl r=>some (w r) | .inr s=>f s
theorem IV {ρ σ:Type} {s:σ} {f:σ→Option ρ} {r:ρ} (h:wN (.inr s) f=some r):f s=some r:=h
theorem zZc {ρ σ β:Type} {w:ρ→β} {s:σ} {f:σ→Option β} {r:β} (h:Qr w (.inr s) f=some r):f s=some r:=h
theorem Qs {α:Type} {n:Nat} {xs ys:List α} (h:yV n xs=some ys):n=xs.length:=(zo h).2.symm
section
variable {P:Program} [T:ET P] {w0:World} {nt:Nat} {Γ Γ':Env} {F F' G R:List As} {Q:Exit→Act→World→Prop} {ops:Array Oper} {rest:List Oper}
variable {d:Nat} {op:Op} {ty:Nat} {pos:String} {af:Array Edge} {X:List Oper→Act→World→Prop} {Post:Value→List As→Prop}
theorem St.zq [W:Walk P ops X] {f:FuncId} {fn:Func} {x y z:Operand} {s:ByteArray} {c:Int} {ts:Array Nat} (hf:P.funcs[f]? =some fn) (hname:(fn.name== "runtime.NumGoroutine")=false) (hb:fn.body.isNone=true)
  (hn:Extern.findNext fn=none) (he:Extern.find fn=some Extern.BytealgIndexByte.indexByte) (hd:Nat.blt d nt=true) (hx:ev Γ x=some (.func (.func f) #[] #[])) (hy:ev Γ y=some (.string s)) (hz:ev Γ z=some (.int .u8 c))
  (k:St w0 nt ((d, .int .i64 (fJ s c))::Γ) F (X rest)):
  St w0 nt Γ F (X (⟨some d, .call { callee:=.value x,args:=#[y,z],argTypes:=ts },ty,pos,af,none⟩::rest)):=
 fun a w hs hdf ha hf' hw=>by
  refine W.val _ _ _ _ (.int .i64 (fJ s c)) (yT O _) (fun w' _=>?_) (k _ w (by simp [Act.put,hs]) hdf (ha.put (hs▸Nat.le_of_ble_eq_true hd)) hf' hw)
  have hc:=run_callFunc_extern hf hname hb hn he #[.string s, .int .u8 c] w'
  rw [Lib.run_indexByteString] at hc
  simp only [Result.andThen_ok] at hc
  simp [execOp,resolve,ha.eval hx,ha.eval hy,ha.eval hz,Deferred.ofValue,invoke,hc,fJ]
def mr {α:Type} (E:Enc α) (xs:List α):Value:=.agg (xs.map E.enc).flatten.toArray
theorem lB {α:Type} (E:Enc α) (xs:List α):(xs.map E.enc).flatten.length=xs.length*E.sz:=by
 induction xs with
 | nil=>simp
 | cons x r ih=>simp [E.len,Nat.add_mul,Nat.add_comm,ih]
theorem Y2 {α:Type} (E:Enc α) (xs:List α):∀ u∈(xs.map E.enc).flatten,u.oneCell'=true:=by
 intro u hu
 obtain ⟨r,hr,hur⟩:=List.mem_flatten.1 hu
 obtain ⟨x,_,rfl⟩:=List.mem_map.1 hr
 exact E.one x u hur
theorem Y3 {β:Type}:∀ (l:List Value) (k:List Value→Option β),VS l l.length k=k l
 | [],k=>rfl
 | v::r,k=>by
  show VS r r.length _=_
  rw [Y3 r]
theorem Qu {α:Type} (E:Enc α) {tt:TT} {t n:Nat} {i:TI} (xs:List α) (hi:zY tt t=some i) (ha:eV i.desc=true) (hs:i.size=n*E.sz) (hl:xs.length=n):rF tt t (xs.map E.enc).flatten 0=some (mr E xs):=by
 unfold rF
 rw [hi]
 simp only [ha,List.drop_zero]
 have:i.size=(xs.map E.enc).flatten.length:=by rw [lB,hs,hl]
 rw [this,Y3]
 rfl
theorem Sat.NR {α:Type} {E:Enc α} {e c g:Nat} {xs:List α} {w:World} (hc:xs.length=c) (h:Sat (.res (zD E e (some ⟨g,0,none⟩) c xs)::F) w) (h0:Nat.blt 0 c=true):Sat (.res (Box g e (xs.map E.enc).flatten)::F) w:=by
 subst hc
 have h0':0<xs.length:=Nat.le_of_ble_eq_true h0
 have hg:oO (some ⟨g,0,none⟩) xs.length= [g]:=aF h0'
 refine h.exchange (sO.LH (Ext.refl w)) (by simp [Box]) (fun k hk=>?_) ?_
 ·simp only [Box,List.mem_singleton] at hk
  subst hk
  exact ⟨h.lt (by simp [zN,As.gs,zD,Own,hg]), .inl (by simp [zD,Own,hg])⟩
 ·obtain ⟨h1,h2,h3⟩:=(h.all _ (List.mem_cons_self ..)).2.1
  rcases h3 with ⟨h3,_⟩ | ⟨g',cur,fr,_,hA,hm,hsz,_,_,htk,hfr⟩
  ·omega
  ·injection hA with hA
   injection hA with hA
   subst hA
   refine ⟨_,hm,fr,?_,fun i hi=>hfr i ?_⟩
   ·have:cur.toList=(xs.map E.enc).flatten:=by
     rw [←htk,List.take_of_length_le]
     simp [hsz]
    rw [←this]
   ·rw [lB] at hi
    omega
theorem Sat.QB {α:Type} {E:Enc α} {e c g:Nat} {xs:List α} {w:World} (hc:xs.length=c) (hm:Nat.ble c 16777216=true) (h:Sat (.res (Box g e (xs.map E.enc).flatten)::F) w):Sat (.res (zD E e (some ⟨g,0,none⟩) c xs)::F) w:=by
 subst hc
 exact h.IB xs O hm
theorem St.UD {α:Type} (E:Enc α) {t n:Nat} {i:TI} (z:α) (hd:Nat.blt d nt=true) (hi:zY T.tt t=some i) (hz:zc i.zero=((List.replicate n z).map E.enc).flatten) (hm:Nat.ble n 16777216=true)
  (k:∀ g,St w0 nt ((d, .pointer (some ⟨g,0,none⟩))::Γ) (.res (zD E t (some ⟨g,0,none⟩) n (List.replicate n z))::F) (wpList P ops Q rest)):
  St w0 nt Γ F (wpList P ops Q (⟨some d, .alloc t,ty,pos,af,none⟩::rest)):=
 St.alloc hd hi fun g=>St.AQ (fun w hw=>by rw [hz] at hw; exact Sat.QB (by simp) hm hw) (k g)
theorem St.Y4 {α:Type} (E:Enc α) {t n g:Nat} {i:TI} {x:Operand} {xs ys:List α} (hl:yV n xs=some ys) (hd:Nat.blt d nt=true) (hx:ev Γ x=some (.pointer (some ⟨g,0,none⟩))) (hi:zY T.tt t=some i) (ha:eV i.desc=true) (hs:i.size=n*E.sz) (h0:Nat.blt 0 n=true) (hm:Nat.ble n 16777216=true)
  (hD:Del F (.res (zD E t (some ⟨g,0,none⟩) n xs)) G) (k:St w0 nt ((d,mr E ys)::Γ) (.res (zD E t (some ⟨g,0,none⟩) n ys)::G) (wpList P ops Q rest)):
  St w0 nt Γ F (wpList P ops Q (⟨some d, .load t x,ty,pos,af,none⟩::rest)):=by
 obtain ⟨rfl,hn⟩:=zo hl
 refine St.AQ (fun w hw=>Sat.NR hn (hw.front hD) h0) ?_
 exact St.JJ 0 hd hx (.head _) O (Qu E ys hi ha hs hn) (St.AQ (fun w hw=>Sat.QB hn hm hw) k)
theorem zLJ:∀ (cs vs:List Value),cs.length=vs.length→rA cs 0 vs some=some vs:=by
 have:∀ (cs vs:List Value) (k:List Value→Option (List Value)),cs.length=vs.length→rA cs 0 vs k=k vs:=by
  intro cs
  induction cs with
  | nil=>intro vs k h; cases vs with
   | nil=>rfl
   | cons=>cases h
  | cons c cs ih=>intro vs k h; cases vs with
   | nil=>cases h
   | cons v vs=>
    show rA cs 0 vs _=_
    rw [ih vs _ (by simpa using h)]
 intro cs vs h
 exact this cs vs some h
theorem St.stA {α:Type} (E:Enc α) {t n g:Nat} {i:TI} {x y:Operand} {xs xs' ys zs:List α} (hl':yV n xs=some xs') (hl:yV n ys=some zs) (hx:ev Γ x=some (.pointer (some ⟨g,0,none⟩))) (hy:ev Γ y=some (mr E ys)) (hi:zY T.tt t=some i) (hs:i.size=n*E.sz) (h0:Nat.blt 0 n=true) (hm:Nat.ble n 16777216=true)
  (hD:Del F (.res (zD E t (some ⟨g,0,none⟩) n xs)) G) (k:St w0 nt Γ (.res (zD E t (some ⟨g,0,none⟩) n zs)::G) (wpList P ops Q rest)):
  St w0 nt Γ F (wpList P ops Q (⟨none, .store t x y,ty,pos,af,none⟩::rest)):=by
 obtain ⟨rfl,hn'⟩:=zo hl'
 obtain ⟨rfl,hn⟩:=zo hl
 refine St.AQ (fun w hw=>Sat.NR hn' (hw.front hD) h0) ?_
 have hz:zc (mr E zs)=(zs.map E.enc).flatten:=by simp [zc,mr]
 refine St.store 0 hx hy O hi ?_ ?_ .z ?_ (St.AQ (fun w hw=>Sat.QB hn hm hw) k)
 ·rw [hz,lB,hs,hn]
  simp
 ·rw [hz,List.all_eq_true]
  exact Y2 E zs
 ·rw [hz]
  exact zLJ _ _ (by rw [lB,lB,hn,hn'])
def Qv:As→Prop
 | .ro _=>False
 | .res r=>∀ m z z',r.q m z→r.q m z'
def dV:List As→Prop
 | []=>True
 | x::r=>Qv x∧dV r
theorem dV.mem:∀ {F:List As},dV F→∀ x∈F,Qv x
 | [],_,x,hx=>by cases hx
 | y::r,h,x,hx=>by
  cases hx with
  | head=>exact h.1
  | tail _ hx=>exact dV.mem h.2 x hx
theorem zOX {α:Type} (E:Enc α) (e:Nat) (A:Option Addr) (c:Nat) (xs:List α):Qv (.res (zD E e A c xs)):=fun _ _ _ _=>True.intro
theorem AX.Qw {f:FuncId} {args:List Value} {G:List As} (h:AX P f args G Post) (hro:iO G=true) {w:World} (hG:∀ r,As.ro r∈G→r.p (hp w)) (hf:Sat F w) (hpl:∀ v F',Post v F'→dV F'):
  Calls P f args.toArray w fun e w'=>∃ v F',e= .returned v∧Post v F'∧Sat (F'++F) w'∧Same w w':=by
 have hG':=fL hro
 have hb:zN (G++ [.ro (iL w)])= []:=kY fun x hx=>by
  rcases List.mem_append.1 hx with hx | hx
  ·obtain ⟨r,rfl⟩:=hG' x hx; rfl
  ·simp at hx; subst hx; rfl
 have hs:Sat (G++ [.ro (iL w)]) w:=by
  refine ⟨by rw [hb]; simp,fun x hx=>?_⟩
  rw [hb]
  rcases List.mem_append.1 hx with hx | hx
  ·obtain ⟨r,rfl⟩:=hG' x hx
   refine r.mono _ _ ?_ (hG r hx)
   intro k o ho
   simpa [FW,hp] using ho
  ·simp at hx
   subst hx
   intro k _
   simp [FW]
 refine (h w [.ro (iL w)] hs).mono fun e w' ⟨v',F',h1,h2,h4,h5⟩=>⟨v',F',h1,h2,?_,h5⟩
 have hfz:∀ k,k<w.heap.size→FW (zN (F'++ [.ro (iL w)])) w' k=w.heap[k]?:=fun k hk=>h4.ro (r:=iL w) (by simp) k hk
 have hbl:zN (F'++ [.ro (iL w)])=zN F':=by rw [rU]; simp [zN,As.gs]
 rw [hbl] at hfz
 have hnew:∀ k,k∈zN F'→w.heap.size≤k:=fun k hk=>by
  rcases Nat.lt_or_ge k w.heap.size with hlt | hge
  ·have:=hfz k hlt
   rw [FW,if_pos hk,Array.getElem?_eq_getElem hlt] at this
   cases this
  ·exact hge
 have hold:∀ k,k<w.heap.size→w'.heap[k]? =w.heap[k]?:=fun k hk=>by
  have:=hfz k hk
  rw [FW,if_neg (fun hm=>Nat.not_le.2 hk (hnew k hm))] at this
  exact this
 have hext:Ext w w':=⟨h5,hold⟩
 have hfe:=hf.ext hext
 refine ⟨?_,fun x hx=>?_⟩
 ·rw [rU]
  refine List.nodup_append.2 ⟨?_,hf.nodup,fun a ha b hb' e=>?_⟩
  ·have:=h4.nodup
   rw [hbl] at this
   exact this
  ·have h6:=hnew a ha
   have h7:=hf.lt hb'
   omega
 ·rcases List.mem_append.1 hx with hx | hx
  ·have hh:=h4.all x (List.mem_append.2 (.inl hx))
   have hp':=(hpl v' F' h2).mem x hx
   cases x with
   | ro r=>exact hp'.elim
   | res r=>exact ⟨hh.1,hh.2.1,hp' _ _ _ hh.2.2⟩
  ·have hh:=hf.all x hx
   have hle:Hp.le (FW (zN F) w) (FW (zN (F'++F)) w'):=by
    intro k o hk
    unfold FW at*
    split at hk
    ·cases hk
    ·rename_i hnn
     have hlt:=(Array.getElem?_eq_some_iff.1 hk).1
     rw [if_neg,hold k hlt]
     ·exact hk
     ·rw [rU,List.mem_append,not_or]
      exact ⟨fun hm=>Nat.not_le.2 hlt (hnew k hm),hnn⟩
   cases x with
   | ro r=>exact r.mono _ _ hle hh
   | res r=>
    have hb':∀ k,k∈r.gs→hp w k=hp w' k:=fun k hk=>(hold k (hh.1 k hk)).symm
    exact ⟨fun k hk=>Nat.lt_of_lt_of_le (hh.1 k hk) hext.size,r.loc _ _ hb' hh.2.1,r.OG _ _ _ _ hb' hle hh.2.2⟩
def bQ (G:List As) (F:List As):Prop:=∀ w,Sat F w→∀ r,As.ro r∈G→r.p (hp w)
theorem bQ.nil:bQ [] F:=fun w h r hr=>by cases hr
theorem bQ.ro {r:Ro} (hm:As.ro r∈F) (h:bQ G F):bQ (.ro r::G) F:=fun w hw r' hr=>by
 cases hr with
 | head=>exact hw.KR hm
 | tail _ hr=>exact h w hw r' hr
theorem bQ.own {α:Type} {E:Enc α} {e c:Nat} {A:Option Addr} {xs:List α} (hm:As.res (zD E e A c xs)∈F) (h:bQ G F):bQ (.ro (BP E A c xs)::G) F:=fun w hw r' hr=>by
 cases hr with
 | head=>exact zD.sl hw hm
 | tail _ hr=>exact h w hw r' hr
theorem bQ.pure {r:Ro} (hr0:∀ m,r.p m) (h:bQ G F):bQ (.ro r::G) F:=fun w hw r' hr=>by
 cases hr with
 | head=>exact hr0 _
 | tail _ hr=>exact h w hw r' hr
theorem St.YF {f:FuncId} {args:List Value} {G:List As} {x:Operand} {xs:List Operand} {ts:Array Nat} (h:AX P f args G Post) (he:BV P f) (hd:Nat.blt d nt=true) (hx:ev Γ x=some (.func (.func f) #[] #[])) (hxs:evs Γ xs=some args)
  (hro:iO G=true) (hA:bQ G F) (hpl:∀ v F',Post v F'→dV F') (k:∀ v F',Post v F'→St w0 nt ((d,v)::Γ) (F'++F) (wpList P ops Q rest)):
  St w0 nt Γ F (wpList P ops Q (⟨some d, .call { callee:=.value x,args:=xs.toArray,argTypes:=ts },ty,pos,af,none⟩::rest)):=
 fun a w hs hdf ha hf hw=>wpList_plain O fun K hK=>by
  unfold Oper.wp
  rw [Gl he (ha.eval hx) (ha.KQ hxs)]
  show Calls P f args.toArray w _
  refine (h.Qw hro (hA w hf) hf hpl).mono fun e w' ⟨v,F',h1,h2,h3,h4⟩=>?_
  subst h1
  exact hK _ _ (k v F' h2 _ _ (by simp [Act.put,hs]) hdf (ha.put (hs▸Nat.le_of_ble_eq_true hd)) h3 (hw.trans h4))
def Hr (P:Program) (f:FuncId) (args:List Value) (F:List As) (Post:Value→List As→Prop):Prop:=
 ∀ (w:World),Sat (F++ [.ro (iL w)]) w→Calls P f args.toArray w (Out w [.ro (iL w)] Post)
theorem Hr.intro {f:FuncId} {fn:Func} {c:Code} {args:List Value} (hf:P.funcs[f]? =some fn) (hb:fn.body=some c) (hn:fn.ntmps=nt) (hl:Nat.ble args.length nt=true)
  (h:∀ w R,R= [.ro (iL w)]→St w nt (GX 0 args) (F++R) (c.wp P (bodyPost P fn (Out w R Post)))):Hr P f args F Post:=by
 intro w hs
 have hl':=Nat.le_of_ble_eq_true hl
 refine calls_of_wp hf hb (h w _ O _ w ?_ O ?_ hs (Same.refl w))
 ·simp [hn]; omega
 ·refine At.GX _ _ args 0 fun i v hv=>?_
  rw [Nat.zero_add]
  have hi:=(List.getElem?_eq_some_iff.1 hv).1
  rw [Array.getElem?_append_left (by simpa using hi)]
  simpa using hv
theorem Hr.quiet {f:FuncId} {args:List Value} {G:List As} {v:Value} (h:Hr P f args G (Val v)) (hro:iO G=true) (hin:lE G F) {w:World} (hf:Sat F w):
  Calls P f args.toArray w fun e w'=>e= .returned v∧Ext w w':=by
 have hG:=fL hro
 have hb:zN (G++ [.ro (iL w)])= []:=kY fun x hx=>by
  rcases List.mem_append.1 hx with hx | hx
  ·obtain ⟨r,rfl⟩:=hG x hx; rfl
  ·simp at hx; subst hx; rfl
 have hs:Sat (G++ [.ro (iL w)]) w:=by
  refine ⟨by rw [hb]; simp,fun x hx=>?_⟩
  rw [hb]
  rcases List.mem_append.1 hx with hx | hx
  ·obtain ⟨r,rfl⟩:=hG x hx
   refine r.mono _ _ ?_ (hf.ro (hin.mem _ hx))
   exact cX w (by simp)
  ·simp at hx
   subst hx
   intro k _
   simp [FW]
 refine (h w hs).mono fun e w' ⟨v',F',h1,⟨h2,h3⟩,h4,h5⟩=>?_
 subst h2; subst h3
 refine ⟨h1,h5,fun k hk=>?_⟩
 have h6:=h4.KR (r:=iL w) (by simp) k hk
 exact h6
end
theorem Y5 {P:Program} {w:World} {n:String} {d:DataW Unit}:∀ {l:List (String × DataW Unit)} {ps:List MemPlace},DataW.LaidVars P w l ps→(n,d)∈l→
  ∃ g t cs fuel p,P.globalNamed n=some g∧(P.globals[g]?).map (·.type)=some t∧w.var? P n=some cs∧DataW.trod (fun _=>()) P w 0 (fun _=>true) false fuel t cs.toList=some (d,p)
 | [],_,_,h=>by cases h
 | (m,e)::r,ps,hl,h=>by
  obtain ⟨g,t,cs,fuel,p,q,h1,h2,h3,h4,h5,_⟩:=hl
  rcases List.mem_cons.1 h with h | h
  ·injection h with ha hb
   subst ha; subst hb
   exact ⟨g,t,cs,fuel,p,h1,h2,h3,h4⟩
  ·exact Y5 h5 h
theorem zPR {P:Program} {k:IntKind} {W:World} {l:List (String × DataW Unit)} {nm:String} {g t e n:Nat} {vals:List Int} (hL:laidMet P l W) (hmem:(nm,DataW.agg (vals.map fun v=>.lit (.int k v)))∈l)
  (hg:P.globalNamed nm=some g) (ht:(P.globals[g]?).map (·.type)=some t) (hu:P.underlying t=some (.array n e)) (he:P.underlying e=some (.int k)) (hsz:P.cellsOf e=1):
  ∀ (i:Nat) v,vals[i]? =some v→jN (hp W) g i=some (.int k v):=by
 intro i v hv
 obtain ⟨ps,hl,_,_⟩:=hL
 obtain ⟨g',t',cs,fuel,p,h1,h2,h3,h4⟩:=Y5 hl hmem
 rw [hg] at h1
 injection h1 with h1
 subst h1
 rw [ht] at h2
 injection h2 with h2
 subst h2
 obtain ⟨xs,m,_,hx,_,hlen,hf⟩:=DataW.trod_array hu h4
 injection hx with hx _
 injection hx with hx
 have hi:i<vals.length:=(List.getElem?_eq_some_iff.1 hv).1
 have hxl:xs.length=vals.length:=by
  have:=congrArg List.length hx
  simpa using this.symm
 have hxi:xs[i]?.map (·.1)=some (.lit (.int k v)):=by
  rw [←List.getElem?_map,←hx,List.getElem?_map,hv]
  rfl
 cases hxx:xs[i]? with
 | none=>rw [hxx] at hxi; cases hxi
 | some x=>
  rw [hxx] at hxi
  simp only [Option.map_some,Option.some.injEq] at hxi
  have hfi:=hf i (by omega)
  rw [hsz,hxx] at hfi
  obtain ⟨z,hz,hz2,_⟩:=DataW.trod_int he hfi
  rw [hz2] at hxi
  injection hxi with hxi
  injection hxi with _ hxi
  subst hxi
  have hci:cs[i]? =some (.int k z):=by
   have:((cs.toList.drop (i*1)).take 1)[0]? =some (.int k z):=by rw [hz]; rfl
   rw [List.getElem?_take_of_lt (by omega),List.getElem?_drop] at this
   simpa using this
  unfold World.var? at h3
  rw [hg,Option.bind_some] at h3
  unfold jN hp
  cases ho:W.heap[g]? with
  | none=>rw [ho] at h3; cases h3
  | some o=>
   rw [ho] at h3
   cases o with
   | cells c1 _ _=>
    simp only [Option.some.injEq] at h3
    subst h3
    exact hci
   | _=>cases h3
theorem Y6 {P:Program} {k:IntKind} {W:World} {l:List (String × DataW Unit)} {nm:String} {g t e n:Nat} (E:Enc Int) (vals:List Int) (hE:∀ x,E.enc x= [.int k x]) (hs:E.sz=1) (hL:laidMet P l W) (hmem:(nm,DataW.agg (vals.map fun v=>.lit (.int k v)))∈l)
  (hg:P.globalNamed nm=some g) (ht:(P.globals[g]?).map (·.type)=some t) (hu:P.underlying t=some (.array n e)) (he:P.underlying e=some (.int k)) (hsz:P.cellsOf e=1) (hb:vals.length≤1000000):
  (BP E (some ⟨g,0,none⟩) vals.length vals).p (hp W):=by
 have h:=zPR hL hmem hg ht hu he hsz
 refine ⟨Nat.le_refl _,by unfold maxLen; omega,fun h=>(by cases h),fun ad had j x hx=>?_⟩
 injection had with had
 subst had
 refine ⟨O,E.enc x,O,fun i u hi=>?_⟩
 rw [hE] at hi
 have h0:i=0:=by
  rcases Nat.eq_zero_or_pos i with h0 | h0
  ·exact h0
  ·rw [List.getElem?_eq_none (by simp; omega)] at hi
   cases hi
 subst h0
 simp only [List.getElem?_cons_zero,Option.some.injEq] at hi
 subst hi
 have:(DC E).n=1:=hs
 rw [this]
 simpa using h j x hx
def tt:TT:= [
 (2,⟨(.int .i64),1,8,(.int .i64 0),false⟩),
 (3,⟨(.int .i64),1,8,(.int .i64 0),false⟩),
 (4,⟨.bool,1,1,(.bool false),false⟩),
 (5,⟨(.int .u8),1,1,(.int .u8 0),false⟩),
 (9,⟨.string,1,16,(.string ⟨#[]⟩),false⟩),
 (12,⟨(.int .u64),1,8,(.int .u64 0),false⟩),
 (13,⟨(.struct [(9,0,false),(12,1,false)]),2,24,(.agg #[(.string ⟨#[]⟩),(.int .u64 0)]),false⟩),
 (21,⟨(.int .i32),1,4,(.int .i32 0),false⟩),
 (22,⟨(.slice 3),1,24,(.slice none 0 0),false⟩),
 (25,⟨(.pointer 101),1,8,(.pointer none),false⟩),
 (27,⟨(.slice 43),1,24,(.slice none 0 0),false⟩),
 (29,⟨(.slice 5),1,24,(.slice none 0 0),false⟩),
 (30,⟨(.int .i64),1,8,(.int .i64 0),false⟩),
 (33,⟨(.int .u32),1,4,(.int .u32 0),false⟩),
 (34,⟨(.slice 105),1,24,(.slice none 0 0),false⟩),
 (35,⟨(.struct [(4,0,false),(5,1,false),(33,2,false),(34,3,false)]),4,32,(.agg #[(.bool false),(.int .u8 0),(.int .u32 0),(.slice none 0 0)]),true⟩),
 (36,⟨(.struct [(4,0,false),(5,1,false),(33,2,false),(34,3,false)]),4,32,(.agg #[(.bool false),(.int .u8 0),(.int .u32 0),(.slice none 0 0)]),true⟩),
 (37,⟨(.struct [(36,0,false),(36,4,false),(36,8,false),(29,12,false)]),13,120,(.agg #[(.bool false),(.int .u8 0),(.int .u32 0),(.slice none 0 0),(.bool false),(.int .u8 0),(.int .u32 0),(.slice none 0 0),(.bool false),(.int .u8 0),(.int .u32 0),(.slice none 0 0),(.slice none 0 0)]),true⟩),
 (38,⟨(.struct [(36,0,false),(36,4,false),(36,8,false),(29,12,false)]),13,120,(.agg #[(.bool false),(.int .u8 0),(.int .u32 0),(.slice none 0 0),(.bool false),(.int .u8 0),(.int .u32 0),(.slice none 0 0),(.bool false),(.int .u8 0),(.int .u32 0),(.slice none 0 0),(.slice none 0 0)]),true⟩),
 (42,⟨(.struct [(3,0,false),(29,1,false)]),2,32,(.agg #[(.int .i64 0),(.slice none 0 0)]),true⟩),
 (43,⟨(.struct [(3,0,false),(29,1,false)]),2,32,(.agg #[(.int .i64 0),(.slice none 0 0)]),true⟩),
 (46,⟨(.pointer 112),1,8,(.pointer none),false⟩),
 (49,⟨(.pointer 116),1,8,(.pointer none),false⟩),
 (52,⟨(.pointer 124),1,8,(.pointer none),false⟩),
 (55,⟨(.slice 134),1,24,(.slice none 0 0),false⟩),
 (58,⟨(.slice 140),1,24,(.slice none 0 0),false⟩),
 (64,⟨(.slice 79),1,24,(.slice none 0 0),false⟩),
 (67,⟨(.slice 76),1,24,(.slice none 0 0),false⟩),
 (71,⟨(.int .u16),1,2,(.int .u16 0),false⟩),
 (74,⟨(.array 3 5),3,3,(.agg #[(.int .u8 0),(.int .u8 0),(.int .u8 0)]),false⟩),
 (75,⟨(.struct [(71,0,false),(33,1,false),(71,2,false),(5,3,false),(5,4,false),(5,5,false),(4,6,false),(74,7,false)]),10,20,(.agg #[(.int .u16 0),(.int .u32 0),(.int .u16 0),(.int .u8 0),(.int .u8 0),(.int .u8 0),(.bool false),(.int .u8 0),(.int .u8 0),(.int .u8 0)]),true⟩),
 (76,⟨(.struct [(71,0,false),(33,1,false),(71,2,false),(5,3,false),(5,4,false),(5,5,false),(4,6,false),(74,7,false)]),10,20,(.agg #[(.int .u16 0),(.int .u32 0),(.int .u16 0),(.int .u8 0),(.int .u8 0),(.int .u8 0),(.bool false),(.int .u8 0),(.int .u8 0),(.int .u8 0)]),true⟩),
 (78,⟨(.struct [(3,0,false),(3,1,false),(3,2,false)]),3,24,(.agg #[(.int .i64 0),(.int .i64 0),(.int .i64 0)]),true⟩),
 (79,⟨(.struct [(3,0,false),(3,1,false),(3,2,false)]),3,24,(.agg #[(.int .i64 0),(.int .i64 0),(.int .i64 0)]),true⟩),
 (81,⟨(.slice 170),1,24,(.slice none 0 0),false⟩),
 (82,⟨(.struct [(3,0,false),(4,1,false),(3,2,false),(3,3,false),(3,4,false),(3,5,false),(81,6,false)]),7,72,(.agg #[(.int .i64 0),(.bool false),(.int .i64 0),(.int .i64 0),(.int .i64 0),(.int .i64 0),(.slice none 0 0)]),true⟩),
 (83,⟨(.struct [(3,0,false),(4,1,false),(3,2,false),(3,3,false),(3,4,false),(3,5,false),(81,6,false)]),7,72,(.agg #[(.int .i64 0),(.bool false),(.int .i64 0),(.int .i64 0),(.int .i64 0),(.int .i64 0),(.slice none 0 0)]),true⟩),
 (84,⟨(.array 6 5),6,6,(.agg #[(.int .u8 0),(.int .u8 0),(.int .u8 0),(.int .u8 0),(.int .u8 0),(.int .u8 0)]),false⟩),
 (85,⟨(.struct [(5,0,false),(84,1,false)]),7,7,(.agg #[(.int .u8 0),(.int .u8 0),(.int .u8 0),(.int .u8 0),(.int .u8 0),(.int .u8 0),(.int .u8 0)]),true⟩),
 (86,⟨(.struct [(5,0,false),(84,1,false)]),7,7,(.agg #[(.int .u8 0),(.int .u8 0),(.int .u8 0),(.int .u8 0),(.int .u8 0),(.int .u8 0),(.int .u8 0)]),true⟩),
 (87,⟨(.struct [(5,0,false),(5,1,false)]),2,2,(.agg #[(.int .u8 0),(.int .u8 0)]),true⟩),
 (88,⟨(.struct [(5,0,false),(5,1,false)]),2,2,(.agg #[(.int .u8 0),(.int .u8 0)]),true⟩),
 (89,⟨(.struct [(5,0,false),(5,1,false),(5,2,false),(9,3,false),(88,4,false),(4,6,false),(83,7,false),(86,14,false),(5,21,false),(5,22,false),(71,23,false),(71,24,false),(71,25,false),(4,26,false),(3,27,false)]),28,136,(.agg #[(.int .u8 0),(.int .u8 0),(.int .u8 0),(.string ⟨#[]⟩),(.int .u8 0),(.int .u8 0),(.bool false),(.int .i64 0),(.bool false),(.int .i64 0),(.int .i64 0),(.int .i64 0),(.int .i64 0),(.slice none 0 0),(.int .u8 0),(.int .u8 0),(.int .u8 0),(.int .u8 0),(.int .u8 0),(.int .u8 0),(.int .u8 0),(.int .u8 0),(.int .u8 0),(.int .u16 0),(.int .u16 0),(.int .u16 0),(.bool false),(.int .i64 0)]),true⟩),
 (90,⟨(.struct [(5,0,false),(5,1,false),(5,2,false),(9,3,false),(88,4,false),(4,6,false),(83,7,false),(86,14,false),(5,21,false),(5,22,false),(71,23,false),(71,24,false),(71,25,false),(4,26,false),(3,27,false)]),28,136,(.agg #[(.int .u8 0),(.int .u8 0),(.int .u8 0),(.string ⟨#[]⟩),(.int .u8 0),(.int .u8 0),(.bool false),(.int .i64 0),(.bool false),(.int .i64 0),(.int .i64 0),(.int .i64 0),(.int .i64 0),(.slice none 0 0),(.int .u8 0),(.int .u8 0),(.int .u8 0),(.int .u8 0),(.int .u8 0),(.int .u8 0),(.int .u8 0),(.int .u8 0),(.int .u8 0),(.int .u16 0),(.int .u16 0),(.int .u16 0),(.bool false),(.int .i64 0)]),true⟩),
 (91,⟨(.pointer 167),1,8,(.pointer none),false⟩),
 (94,⟨(.slice 90),1,24,(.slice none 0 0),false⟩),
 (96,⟨(.struct [(5,0,false),(4,1,false),(5,2,false),(71,3,false)]),4,6,(.agg #[(.int .u8 0),(.bool false),(.int .u8 0),(.int .u16 0)]),true⟩),
 (97,⟨(.struct [(5,0,false),(4,1,false),(5,2,false),(71,3,false)]),4,6,(.agg #[(.int .u8 0),(.bool false),(.int .u8 0),(.int .u16 0)]),true⟩),
 (98,⟨(.slice 97),1,24,(.slice none 0 0),false⟩),
 (100,⟨(.struct [(22,0,false),(3,1,false)]),2,32,(.agg #[(.slice none 0 0),(.int .i64 0)]),true⟩),
 (101,⟨(.struct [(22,0,false),(3,1,false)]),2,32,(.agg #[(.slice none 0 0),(.int .i64 0)]),true⟩),
 (104,⟨(.struct [(3,0,false),(9,1,false)]),2,24,(.agg #[(.int .i64 0),(.string ⟨#[]⟩)]),true⟩),
 (105,⟨(.struct [(3,0,false),(9,1,false)]),2,24,(.agg #[(.int .i64 0),(.string ⟨#[]⟩)]),true⟩),
 (109,⟨(.array 8 5),8,8,(.agg #[(.int .u8 0),(.int .u8 0),(.int .u8 0),(.int .u8 0),(.int .u8 0),(.int .u8 0),(.int .u8 0),(.int .u8 0)]),false⟩),
 (111,⟨(.struct [(3,0,false),(29,1,false),(22,2,false),(3,3,false),(3,4,false),(5,5,false),(4,6,false)]),7,80,(.agg #[(.int .i64 0),(.slice none 0 0),(.slice none 0 0),(.int .i64 0),(.int .i64 0),(.int .u8 0),(.bool false)]),true⟩),
 (112,⟨(.struct [(3,0,false),(29,1,false),(22,2,false),(3,3,false),(3,4,false),(5,5,false),(4,6,false)]),7,80,(.agg #[(.int .i64 0),(.slice none 0 0),(.slice none 0 0),(.int .i64 0),(.int .i64 0),(.int .u8 0),(.bool false)]),true⟩),
 (113,⟨(.map 5 29),1,8,(.map none),false⟩),
 (114,⟨(.map 5 29),1,8,(.map none),false⟩),
 (115,⟨(.struct [(46,0,false),(3,1,false),(3,2,false),(3,3,false),(114,4,false),(3,5,false),(4,6,false),(4,7,false)]),8,56,(.agg #[(.pointer none),(.int .i64 0),(.int .i64 0),(.int .i64 0),(.map none),(.int .i64 0),(.bool false),(.bool false)]),true⟩),
 (116,⟨(.struct [(46,0,false),(3,1,false),(3,2,false),(3,3,false),(114,4,false),(3,5,false),(4,6,false),(4,7,false)]),8,56,(.agg #[(.pointer none),(.int .i64 0),(.int .i64 0),(.int .i64 0),(.map none),(.int .i64 0),(.bool false),(.bool false)]),true⟩),
 (118,⟨(.struct [(3,0,false),(114,1,false),(3,2,false),(4,3,false)]),4,32,(.agg #[(.int .i64 0),(.map none),(.int .i64 0),(.bool false)]),true⟩),
 (119,⟨(.struct [(3,0,false),(114,1,false),(3,2,false),(4,3,false)]),4,32,(.agg #[(.int .i64 0),(.map none),(.int .i64 0),(.bool false)]),true⟩),
 (122,⟨(.slice 155),1,24,(.slice none 0 0),false⟩),
 (123,⟨(.struct [(46,0,false),(3,1,false),(3,2,false),(4,3,false),(3,4,false),(3,5,false),(3,6,false),(71,7,false),(122,8,false),(4,9,false),(71,10,false),(4,11,false),(4,12,false)]),13,96,(.agg #[(.pointer none),(.int .i64 0),(.int .i64 0),(.bool false),(.int .i64 0),(.int .i64 0),(.int .i64 0),(.int .u16 0),(.slice none 0 0),(.bool false),(.int .u16 0),(.bool false),(.bool false)]),true⟩),
 (124,⟨(.struct [(46,0,false),(3,1,false),(3,2,false),(4,3,false),(3,4,false),(3,5,false),(3,6,false),(71,7,false),(122,8,false),(4,9,false),(71,10,false),(4,11,false),(4,12,false)]),13,96,(.agg #[(.pointer none),(.int .i64 0),(.int .i64 0),(.bool false),(.int .i64 0),(.int .i64 0),(.int .i64 0),(.int .u16 0),(.slice none 0 0),(.bool false),(.int .u16 0),(.bool false),(.bool false)]),true⟩),
 (125,⟨(.slice 29),1,24,(.slice none 0 0),false⟩),
 (126,⟨(.slice 128),1,24,(.slice none 0 0),false⟩),
 (127,⟨(.struct [(3,0,false),(3,1,false),(71,2,false)]),3,24,(.agg #[(.int .i64 0),(.int .i64 0),(.int .u16 0)]),true⟩),
 (128,⟨(.struct [(3,0,false),(3,1,false),(71,2,false)]),3,24,(.agg #[(.int .i64 0),(.int .i64 0),(.int .u16 0)]),true⟩),
 (133,⟨(.struct [(3,0,false),(4,1,false),(9,2,false),(33,3,false)]),4,40,(.agg #[(.int .i64 0),(.bool false),(.string ⟨#[]⟩),(.int .u32 0)]),true⟩),
 (134,⟨(.struct [(3,0,false),(4,1,false),(9,2,false),(33,3,false)]),4,40,(.agg #[(.int .i64 0),(.bool false),(.string ⟨#[]⟩),(.int .u32 0)]),true⟩),
 (139,⟨(.struct [(5,0,false),(29,1,false),(4,2,false)]),3,40,(.agg #[(.int .u8 0),(.slice none 0 0),(.bool false)]),true⟩),
 (140,⟨(.struct [(5,0,false),(29,1,false),(4,2,false)]),3,40,(.agg #[(.int .u8 0),(.slice none 0 0),(.bool false)]),true⟩),
 (143,⟨(.int .u64),1,8,(.int .u64 0),false⟩),
 (154,⟨(.struct [(3,0,false),(76,1,false)]),11,32,(.agg #[(.int .i64 0),(.int .u16 0),(.int .u32 0),(.int .u16 0),(.int .u8 0),(.int .u8 0),(.int .u8 0),(.bool false),(.int .u8 0),(.int .u8 0),(.int .u8 0)]),true⟩),
 (155,⟨(.struct [(3,0,false),(76,1,false)]),11,32,(.agg #[(.int .i64 0),(.int .u16 0),(.int .u32 0),(.int .u16 0),(.int .u8 0),(.int .u8 0),(.int .u8 0),(.bool false),(.int .u8 0),(.int .u8 0),(.int .u8 0)]),true⟩),
 (157,⟨(.slice 163),1,24,(.slice none 0 0),false⟩),
 (162,⟨(.struct [(88,0,false),(88,2,false)]),4,4,(.agg #[(.int .u8 0),(.int .u8 0),(.int .u8 0),(.int .u8 0)]),true⟩),
 (163,⟨(.struct [(88,0,false),(88,2,false)]),4,4,(.agg #[(.int .u8 0),(.int .u8 0),(.int .u8 0),(.int .u8 0)]),true⟩),
 (164,⟨(.slice 176),1,24,(.slice none 0 0),false⟩),
 (165,⟨(.slice 71),1,24,(.slice none 0 0),false⟩),
 (166,⟨(.struct [(94,0,false),(157,1,false),(164,2,false),(165,3,false)]),4,96,(.agg #[(.slice none 0 0),(.slice none 0 0),(.slice none 0 0),(.slice none 0 0)]),true⟩),
 (167,⟨(.struct [(94,0,false),(157,1,false),(164,2,false),(165,3,false)]),4,96,(.agg #[(.slice none 0 0),(.slice none 0 0),(.slice none 0 0),(.slice none 0 0)]),true⟩),
 (169,⟨(.struct [(5,0,false),(2,1,false)]),2,16,(.agg #[(.int .u8 0),(.int .i64 0)]),true⟩),
 (170,⟨(.struct [(5,0,false),(2,1,false)]),2,16,(.agg #[(.int .u8 0),(.int .i64 0)]),true⟩),
 (171,⟨(.slice 88),1,24,(.slice none 0 0),false⟩),
 (175,⟨(.struct [(29,0,false),(3,1,false)]),2,32,(.agg #[(.slice none 0 0),(.int .i64 0)]),true⟩),
 (176,⟨(.struct [(29,0,false),(3,1,false)]),2,32,(.agg #[(.slice none 0 0),(.int .i64 0)]),true⟩),
 (179,⟨(.slice 232),1,24,(.slice none 0 0),false⟩),
 (183,⟨(.array 3 36),12,96,(.agg #[(.bool false),(.int .u8 0),(.int .u32 0),(.slice none 0 0),(.bool false),(.int .u8 0),(.int .u32 0),(.slice none 0 0),(.bool false),(.int .u8 0),(.int .u32 0),(.slice none 0 0)]),false⟩),
 (200,⟨(.pointer 36),1,8,(.pointer none),false⟩),
 (201,⟨(.slice 200),1,24,(.slice none 0 0),false⟩),
 (204,⟨(.struct [(36,0,false),(3,4,false)]),5,40,(.agg #[(.bool false),(.int .u8 0),(.int .u32 0),(.slice none 0 0),(.int .i64 0)]),true⟩),
 (205,⟨(.slice 204),1,24,(.slice none 0 0),false⟩),
 (208,⟨(.map 5 4),1,8,(.map none),false⟩),
 (215,⟨(.map 9 3),1,8,(.map none),false⟩),
 (219,⟨(.map 88 4),1,8,(.map none),false⟩),
 (231,⟨(.struct [(3,0,false),(4,1,false)]),2,16,(.agg #[(.int .i64 0),(.bool false)]),true⟩),
 (232,⟨(.struct [(3,0,false),(4,1,false)]),2,16,(.agg #[(.int .i64 0),(.bool false)]),true⟩),
 (234,⟨(.array 3 3),3,24,(.agg #[(.int .i64 0),(.int .i64 0),(.int .i64 0)]),false⟩),
 (239,⟨(.int .u64),1,8,(.int .u64 0),false⟩),
 (282,⟨(.int .i8),1,1,(.int .i8 0),false⟩),
 (286,⟨(.array 256 4),256,256,(.agg (List.replicate 256 (.bool false)).toArray),false⟩),
 (287,⟨(.array 256 4),256,256,(.agg (List.replicate 256 (.bool false)).toArray),false⟩),
 (291,⟨(.pointer 287),1,8,(.pointer none),false⟩),
 (295,⟨(.int .i64),1,8,(.int .i64 0),false⟩),
 (311,⟨(.int .u64),1,8,(.int .u64 0),false⟩),
 (315,⟨(.pointer 3),1,8,(.pointer none),false⟩),
 (324,⟨(.pointer 311),1,8,(.pointer none),false⟩),
 (328,⟨(.array 256 5),256,256,(.agg (List.replicate 256 (.int .u8 0)).toArray),false⟩),
 (329,⟨(.struct [(5,0,false),(5,1,false)]),2,2,(.agg #[(.int .u8 0),(.int .u8 0)]),true⟩),
 (330,⟨(.struct [(5,0,false),(5,1,false)]),2,2,(.agg #[(.int .u8 0),(.int .u8 0)]),true⟩),
 (331,⟨(.array 16 330),32,32,(.agg #[(.int .u8 0),(.int .u8 0),(.int .u8 0),(.int .u8 0),(.int .u8 0),(.int .u8 0),(.int .u8 0),(.int .u8 0),(.int .u8 0),(.int .u8 0),(.int .u8 0),(.int .u8 0),(.int .u8 0),(.int .u8 0),(.int .u8 0),(.int .u8 0),(.int .u8 0),(.int .u8 0),(.int .u8 0),(.int .u8 0),(.int .u8 0),(.int .u8 0),(.int .u8 0),(.int .u8 0),(.int .u8 0),(.int .u8 0),(.int .u8 0),(.int .u8 0),(.int .u8 0),(.int .u8 0),(.int .u8 0),(.int .u8 0)]),false⟩),
 (344,⟨(.pointer 5),1,8,(.pointer none),false⟩)]
set_option maxRecDepth 100000 in
theorem zYZ:nZ Tryz.prog tt:=⟨
 ⟨by kernel_rfl,by kernel_rfl,fun h=>Bool.noConfusion h⟩,
 ⟨by kernel_rfl,by kernel_rfl,fun h=>Bool.noConfusion h⟩,
 ⟨by kernel_rfl,by kernel_rfl,fun h=>Bool.noConfusion h⟩,
 ⟨by kernel_rfl,by kernel_rfl,fun h=>Bool.noConfusion h⟩,
 ⟨by kernel_rfl,by kernel_rfl,fun h=>Bool.noConfusion h⟩,
 ⟨by kernel_rfl,by kernel_rfl,fun h=>Bool.noConfusion h⟩,
 ⟨by kernel_rfl,by kernel_rfl,fun h=>Bool.noConfusion h⟩,
 ⟨by kernel_rfl,by kernel_rfl,fun h=>Bool.noConfusion h⟩,
 ⟨by kernel_rfl,by kernel_rfl,fun h=>Bool.noConfusion h⟩,
 ⟨by kernel_rfl,by kernel_rfl,fun h=>Bool.noConfusion h⟩,
 ⟨by kernel_rfl,by kernel_rfl,fun h=>Bool.noConfusion h⟩,
 ⟨by kernel_rfl,by kernel_rfl,fun h=>Bool.noConfusion h⟩,
 ⟨by kernel_rfl,by kernel_rfl,fun h=>Bool.noConfusion h⟩,
 ⟨by kernel_rfl,by kernel_rfl,fun h=>Bool.noConfusion h⟩,
 ⟨by kernel_rfl,by kernel_rfl,fun h=>Bool.noConfusion h⟩,
 ⟨by kernel_rfl,by kernel_rfl,fun _=>⟨by kernel_rfl,by kernel_rfl⟩⟩,
 ⟨by kernel_rfl,by kernel_rfl,fun _=>⟨by kernel_rfl,by kernel_rfl⟩⟩,
 ⟨by kernel_rfl,by kernel_rfl,fun _=>⟨by kernel_rfl,by kernel_rfl⟩⟩,
 ⟨by kernel_rfl,by kernel_rfl,fun _=>⟨by kernel_rfl,by kernel_rfl⟩⟩,
 ⟨by kernel_rfl,by kernel_rfl,fun _=>⟨by kernel_rfl,by kernel_rfl⟩⟩,
 ⟨by kernel_rfl,by kernel_rfl,fun _=>⟨by kernel_rfl,by kernel_rfl⟩⟩,
 ⟨by kernel_rfl,by kernel_rfl,fun h=>Bool.noConfusion h⟩,
 ⟨by kernel_rfl,by kernel_rfl,fun h=>Bool.noConfusion h⟩,
 ⟨by kernel_rfl,by kernel_rfl,fun h=>Bool.noConfusion h⟩,
 ⟨by kernel_rfl,by kernel_rfl,fun h=>Bool.noConfusion h⟩,
 ⟨by kernel_rfl,by kernel_rfl,fun h=>Bool.noConfusion h⟩,
 ⟨by kernel_rfl,by kernel_rfl,fun h=>Bool.noConfusion h⟩,
 ⟨by kernel_rfl,by kernel_rfl,fun h=>Bool.noConfusion h⟩,
 ⟨by kernel_rfl,by kernel_rfl,fun h=>Bool.noConfusion h⟩,
 ⟨by kernel_rfl,by kernel_rfl,fun h=>Bool.noConfusion h⟩,
 ⟨by kernel_rfl,by kernel_rfl,fun _=>⟨by kernel_rfl,by kernel_rfl⟩⟩,
 ⟨by kernel_rfl,by kernel_rfl,fun _=>⟨by kernel_rfl,by kernel_rfl⟩⟩,
 ⟨by kernel_rfl,by kernel_rfl,fun _=>⟨by kernel_rfl,by kernel_rfl⟩⟩,
 ⟨by kernel_rfl,by kernel_rfl,fun _=>⟨by kernel_rfl,by kernel_rfl⟩⟩,
 ⟨by kernel_rfl,by kernel_rfl,fun h=>Bool.noConfusion h⟩,
 ⟨by kernel_rfl,by kernel_rfl,fun _=>⟨by kernel_rfl,by kernel_rfl⟩⟩,
 ⟨by kernel_rfl,by kernel_rfl,fun _=>⟨by kernel_rfl,by kernel_rfl⟩⟩,
 ⟨by kernel_rfl,by kernel_rfl,fun h=>Bool.noConfusion h⟩,
 ⟨by kernel_rfl,by kernel_rfl,fun _=>⟨by kernel_rfl,by kernel_rfl⟩⟩,
 ⟨by kernel_rfl,by kernel_rfl,fun _=>⟨by kernel_rfl,by kernel_rfl⟩⟩,
 ⟨by kernel_rfl,by kernel_rfl,fun _=>⟨by kernel_rfl,by kernel_rfl⟩⟩,
 ⟨by kernel_rfl,by kernel_rfl,fun _=>⟨by kernel_rfl,by kernel_rfl⟩⟩,
 ⟨by kernel_rfl,by kernel_rfl,fun _=>⟨by kernel_rfl,by kernel_rfl⟩⟩,
 ⟨by kernel_rfl,by kernel_rfl,fun _=>⟨by kernel_rfl,by kernel_rfl⟩⟩,
 ⟨by kernel_rfl,by kernel_rfl,fun h=>Bool.noConfusion h⟩,
 ⟨by kernel_rfl,by kernel_rfl,fun h=>Bool.noConfusion h⟩,
 ⟨by kernel_rfl,by kernel_rfl,fun _=>⟨by kernel_rfl,by kernel_rfl⟩⟩,
 ⟨by kernel_rfl,by kernel_rfl,fun _=>⟨by kernel_rfl,by kernel_rfl⟩⟩,
 ⟨by kernel_rfl,by kernel_rfl,fun h=>Bool.noConfusion h⟩,
 ⟨by kernel_rfl,by kernel_rfl,fun _=>⟨by kernel_rfl,by kernel_rfl⟩⟩,
 ⟨by kernel_rfl,by kernel_rfl,fun _=>⟨by kernel_rfl,by kernel_rfl⟩⟩,
 ⟨by kernel_rfl,by kernel_rfl,fun _=>⟨by kernel_rfl,by kernel_rfl⟩⟩,
 ⟨by kernel_rfl,by kernel_rfl,fun _=>⟨by kernel_rfl,by kernel_rfl⟩⟩,
 ⟨by kernel_rfl,by kernel_rfl,fun h=>Bool.noConfusion h⟩,
 ⟨by kernel_rfl,by kernel_rfl,fun _=>⟨by kernel_rfl,by kernel_rfl⟩⟩,
 ⟨by kernel_rfl,by kernel_rfl,fun _=>⟨by kernel_rfl,by kernel_rfl⟩⟩,
 ⟨by kernel_rfl,by kernel_rfl,fun h=>Bool.noConfusion h⟩,
 ⟨by kernel_rfl,by kernel_rfl,fun h=>Bool.noConfusion h⟩,
 ⟨by kernel_rfl,by kernel_rfl,fun _=>⟨by kernel_rfl,by kernel_rfl⟩⟩,
 ⟨by kernel_rfl,by kernel_rfl,fun _=>⟨by kernel_rfl,by kernel_rfl⟩⟩,
 ⟨by kernel_rfl,by kernel_rfl,fun _=>⟨by kernel_rfl,by kernel_rfl⟩⟩,
 ⟨by kernel_rfl,by kernel_rfl,fun _=>⟨by kernel_rfl,by kernel_rfl⟩⟩,
 ⟨by kernel_rfl,by kernel_rfl,fun h=>Bool.noConfusion h⟩,
 ⟨by kernel_rfl,by kernel_rfl,fun _=>⟨by kernel_rfl,by kernel_rfl⟩⟩,
 ⟨by kernel_rfl,by kernel_rfl,fun _=>⟨by kernel_rfl,by kernel_rfl⟩⟩,
 ⟨by kernel_rfl,by kernel_rfl,fun h=>Bool.noConfusion h⟩,
 ⟨by kernel_rfl,by kernel_rfl,fun h=>Bool.noConfusion h⟩,
 ⟨by kernel_rfl,by kernel_rfl,fun _=>⟨by kernel_rfl,by kernel_rfl⟩⟩,
 ⟨by kernel_rfl,by kernel_rfl,fun _=>⟨by kernel_rfl,by kernel_rfl⟩⟩,
 ⟨by kernel_rfl,by kernel_rfl,fun _=>⟨by kernel_rfl,by kernel_rfl⟩⟩,
 ⟨by kernel_rfl,by kernel_rfl,fun _=>⟨by kernel_rfl,by kernel_rfl⟩⟩,
 ⟨by kernel_rfl,by kernel_rfl,fun _=>⟨by kernel_rfl,by kernel_rfl⟩⟩,
 ⟨by kernel_rfl,by kernel_rfl,fun _=>⟨by kernel_rfl,by kernel_rfl⟩⟩,
 ⟨by kernel_rfl,by kernel_rfl,fun h=>Bool.noConfusion h⟩,
 ⟨by kernel_rfl,by kernel_rfl,fun _=>⟨by kernel_rfl,by kernel_rfl⟩⟩,
 ⟨by kernel_rfl,by kernel_rfl,fun _=>⟨by kernel_rfl,by kernel_rfl⟩⟩,
 ⟨by kernel_rfl,by kernel_rfl,fun h=>Bool.noConfusion h⟩,
 ⟨by kernel_rfl,by kernel_rfl,fun _=>⟨by kernel_rfl,by kernel_rfl⟩⟩,
 ⟨by kernel_rfl,by kernel_rfl,fun _=>⟨by kernel_rfl,by kernel_rfl⟩⟩,
 ⟨by kernel_rfl,by kernel_rfl,fun h=>Bool.noConfusion h⟩,
 ⟨by kernel_rfl,by kernel_rfl,fun h=>Bool.noConfusion h⟩,
 ⟨by kernel_rfl,by kernel_rfl,fun _=>⟨by kernel_rfl,by kernel_rfl⟩⟩,
 ⟨by kernel_rfl,by kernel_rfl,fun _=>⟨by kernel_rfl,by kernel_rfl⟩⟩,
 ⟨by kernel_rfl,by kernel_rfl,fun _=>⟨by kernel_rfl,by kernel_rfl⟩⟩,
 ⟨by kernel_rfl,by kernel_rfl,fun _=>⟨by kernel_rfl,by kernel_rfl⟩⟩,
 ⟨by kernel_rfl,by kernel_rfl,fun h=>Bool.noConfusion h⟩,
 ⟨by kernel_rfl,by kernel_rfl,fun _=>⟨by kernel_rfl,by kernel_rfl⟩⟩,
 ⟨by kernel_rfl,by kernel_rfl,fun _=>⟨by kernel_rfl,by kernel_rfl⟩⟩,
 ⟨by kernel_rfl,by kernel_rfl,fun h=>Bool.noConfusion h⟩,
 ⟨by kernel_rfl,by kernel_rfl,fun h=>Bool.noConfusion h⟩,
 ⟨by kernel_rfl,by kernel_rfl,fun h=>Bool.noConfusion h⟩,
 ⟨by kernel_rfl,by kernel_rfl,fun h=>Bool.noConfusion h⟩,
 ⟨by kernel_rfl,by kernel_rfl,fun _=>⟨by kernel_rfl,by kernel_rfl⟩⟩,
 ⟨by kernel_rfl,by kernel_rfl,fun h=>Bool.noConfusion h⟩,
 ⟨by kernel_rfl,by kernel_rfl,fun h=>Bool.noConfusion h⟩,
 ⟨by kernel_rfl,by kernel_rfl,fun h=>Bool.noConfusion h⟩,
 ⟨by kernel_rfl,by kernel_rfl,fun h=>Bool.noConfusion h⟩,
 ⟨by kernel_rfl,by kernel_rfl,fun _=>⟨by kernel_rfl,by kernel_rfl⟩⟩,
 ⟨by kernel_rfl,by kernel_rfl,fun _=>⟨by kernel_rfl,by kernel_rfl⟩⟩,
 ⟨by kernel_rfl,by kernel_rfl,fun h=>Bool.noConfusion h⟩,
 ⟨by kernel_rfl,by kernel_rfl,fun h=>Bool.noConfusion h⟩,
 ⟨by kernel_rfl,by kernel_rfl,fun h=>Bool.noConfusion h⟩,
 ⟨by kernel_rfl,by kernel_rfl,fun h=>Bool.noConfusion h⟩,
 ⟨by kernel_rfl,by kernel_rfl,fun h=>Bool.noConfusion h⟩,
 ⟨by kernel_rfl,by kernel_rfl,fun h=>Bool.noConfusion h⟩,
 ⟨by kernel_rfl,by kernel_rfl,fun h=>Bool.noConfusion h⟩,
 ⟨by kernel_rfl,by kernel_rfl,fun h=>Bool.noConfusion h⟩,
 ⟨by kernel_rfl,by kernel_rfl,fun h=>Bool.noConfusion h⟩,
 ⟨by kernel_rfl,by kernel_rfl,fun h=>Bool.noConfusion h⟩,
 ⟨by kernel_rfl,by kernel_rfl,fun h=>Bool.noConfusion h⟩,
 ⟨by kernel_rfl,by kernel_rfl,fun _=>⟨by kernel_rfl,by kernel_rfl⟩⟩,
 ⟨by kernel_rfl,by kernel_rfl,fun _=>⟨by kernel_rfl,by kernel_rfl⟩⟩,
 ⟨by kernel_rfl,by kernel_rfl,fun h=>Bool.noConfusion h⟩,
 ⟨by kernel_rfl,by kernel_rfl,fun h=>Bool.noConfusion h⟩,trivial⟩
instance:ET Tryz.prog:=⟨tt,zYZ⟩
theorem mixed:Tryz.prog.follows .mixedOrders=true:=by kernel_rfl
def zu {β:Type}:Nat→List As→(As→List As→Option β)→Option β
 | _, [],_=>none
 | 0,x::F,k=>k x F
 | i+1,y::F,k=>zu i F fun x G=>k x (y::G)
theorem Qy {β:Type} {r:β}:∀ {i:Nat} {F:List As} {k:As→List As→Option β},zu i F k=some r→∃ x G,Del F x G∧k x G=some r
 | _, [],_,h=>by cases ‹Nat› <;> cases h
 | 0,x::F,k,h=>⟨x,F, .z,h⟩
 | i+1,y::F,k,h=>by
  obtain ⟨x,G,h1,h2⟩:=Qy (i:=i) h
  exact ⟨x,y::G, .s h1,h2⟩
def zx {β:Type}:Nat→List As→(List As→Option β)→Option β
 | 0,F,k=>k F
 | _+1, [],_=>none
 | n+1,_::F,k=>zx n F k
theorem Qz {β:Type} {r:β} {k:List As→Option β}:∀ {n:Nat} {F:List As},zx n F k=some r→∃ D H,F=D++H∧k H=some r
 | 0,F,h=>⟨[],F,O,h⟩
 | _+1, [],h=>by cases h
 | n+1,x::F,h=>by
  obtain ⟨D,H,h1,h2⟩:=Qz (n:=n) (F:=F) h
  exact ⟨x::D,H,by rw [h1]; rfl,h2⟩
def QZ {β:Type}:List Nat→Nat→List As→(List As→Option β)→Option β
 | [],d,F,k=>zx d F k
 | i::is,d,F,k=>zu i F fun x G=>QZ is d G fun t=>k (x::t)
theorem Ht {β:Type} {r:β}:∀ {is:List Nat} {d:Nat} {F:List As} {k:List As→Option β},QZ is d F k=some r→∃ H D,k H=some r∧F.Perm (H++D)
 | [],d,F,k,h=>by
  obtain ⟨D,H,h1,h2⟩:=Qz h
  exact ⟨H,D,h2,h1▸List.perm_append_comm⟩
 | i::is,d,F,k,h=>by
  obtain ⟨x,G,h1,h2⟩:=Qy h
  obtain ⟨H,D,h3,h4⟩:=Ht (is:=is) h2
  exact ⟨x::H,D,h3,h1.perm.trans (h4.cons x)⟩
theorem Sat.part {H D F:List As} {w:World} (h:Sat F w) (hp:F.Perm (H++D)):Sat H w:=by
 have h1:=h.perm hp
 have hn:=h1.nodup
 rw [rU] at hn
 exact h1.JH (List.nodup_append.1 hn).1 fun x hx=>List.mem_append_left _ hx
theorem Sat.sl {F F':List As} {w:World} (h:Sat F w) (is:List Nat) (d:Nat) (e:QZ is d F some=some F'):Sat F' w:=by
 obtain ⟨H,D,h1,hp⟩:=Ht e
 cases h1
 exact h.part hp
theorem zl {F F':List As} (is:List Nat) (d:Nat) (e:QZ is d F some=some F'):∀ w,Sat F w→Sat F' w:=fun _ h=>h.sl is d e
def RY {β:Type}:Nat→List As→(As→Option β)→Option β
 | _, [],_=>none
 | 0,x::_,k=>k x
 | i+1,_::F,k=>RY i F k
theorem Hu {β:Type} {r:β} {k:As→Option β}:∀ {i:Nat} {F:List As},RY i F k=some r→∃ x,x∈F∧k x=some r
 | _, [],h=>by cases ‹Nat› <;> cases h
 | 0,x::_,h=>⟨x,List.mem_cons_self ..,h⟩
 | i+1,_::F,h=>by
  obtain ⟨x,h1,h2⟩:=Hu (i:=i) (F:=F) h
  exact ⟨x,List.mem_cons_of_mem _ h1,h2⟩
theorem zm {F:List As} {x:As} (i:Nat) (e:RY i F some=some x):x∈F:=by
 obtain ⟨y,h1,h2⟩:=Hu e
 cases h2
 exact h1
def XB {β:Type}:List Nat→List As→(List As→Option β)→Option β
 | [],F,k=>k F
 | i::is,F,k=>RY i F fun x=>match x with
  | .ro r=>XB is F fun t=>k (.ro r::t)
  | .res _=>none
theorem Rf {β:Type} {r:β}:∀ {is:List Nat} {F:List As} {k:List As→Option β},XB is F k=some r→∃ G,iO G=true∧(∀ x∈G,x∈F)∧k (G++F)=some r
 | [],F,k,h=>⟨[],O,by simp,h⟩
 | i::is,F,k,h=>by
  obtain ⟨x,h1,h2⟩:=Hu h
  cases x with
  | res _=>cases h2
  | ro q=>
   obtain ⟨G,h3,h4,h5⟩:=Rf (is:=is) h2
   exact ⟨.ro q::G,h3,fun y hy=>by
    rcases List.mem_cons.1 hy with rfl | hy
    ·exact h1
    ·exact h4 y hy,h5⟩
theorem Sat.sd {F F':List As} {w:World} (h:Sat F w) (js is:List Nat) (d:Nat) (e:QZ is d F (fun H=>XB js H some)=some F'):Sat F' w:=by
 obtain ⟨H,D,h1,hp⟩:=Ht e
 obtain ⟨G,h2,h3,h4⟩:=Rf h1
 cases h4
 have hH:=h.part hp
 have hG:=fL h2
 refine hH.JH ?_ fun x hx=>?_
 ·rw [rU,kY (F:=G) fun x hx=>by obtain ⟨r,rfl⟩:=hG x hx; rfl]
  simpa using hH.nodup
 ·rcases List.mem_append.1 hx with hx | hx
  ·exact h3 x hx
  ·exact hx
theorem zd {F F':List As} (js is:List Nat) (d:Nat) (e:QZ is d F (fun H=>XB js H some)=some F'):∀ w,Sat F w→Sat F' w:=fun _ h=>h.sd js is d e
def Hw {β:Type}:List Nat→List As→(List As→Option β)→Option β
 | [],_,k=>k []
 | i::is,F,k=>RY i F fun x=>Hw is F fun t=>k (x::t)
theorem zUp {F:List As} {G:List As} {k:List As→Option (List As)}:∀ {is:List Nat},Hw is F k=some G→∃ H,k H=some G∧∀ x∈H,x∈F:=by
 intro is
 induction is generalizing k with
 | nil=>exact fun h=>⟨[],h,by simp⟩
 | cons i is ih=>
  intro h
  obtain ⟨x,h1,h2⟩:=Hu h
  obtain ⟨H,h3,h4⟩:=ih h2
  exact ⟨x::H,h3,fun y hy=>by
   rcases List.mem_cons.1 hy with rfl | hy
   ·exact h1
   ·exact h4 y hy⟩
theorem lE.of {F:List As}:∀ {G:List As},(∀ x∈G,x∈F)→lE G F
 | [],_=>trivial
 | x::G,h=>⟨h x (List.mem_cons_self ..),lE.of fun y hy=>h y (List.mem_cons_of_mem _ hy)⟩
theorem za {F G:List As} (is:List Nat) (e:Hw is F some=some G):lE G F:=by
 obtain ⟨H,h1,h2⟩:=zUp e
 cases h1
 exact lE.of h2
theorem zi {F G:List As} {x:As} (i:Nat) (e:zu i F (fun x G=>some (x,G))=some (x,G)):Del F x G:=by
 obtain ⟨y,H,h1,h2⟩:=Qy e
 cases h2
 exact h1
def ng {β:Type}:Nat→List As→(List As→Option β)→Option β
 | 0,F,k=>k F
 | _+1, [],_=>none
 | n+1,x::F,k=>ng n F fun t=>k (x::t)
theorem Y7 {β:Type} {r:β}:∀ {n:Nat} {F:List As} {k:List As→Option β},ng n F k=some r→k F=some r
 | 0,_,_,h=>h
 | _+1, [],_,h=>by cases h
 | n+1,x::F,k,h=>Y7 (n:=n) (F:=F) h
def eF {β:Type}:List Nat→Env→(Env→Option β)→Option β
 | [],_,k=>k []
 | i::is,Γ,k=>match get Γ i with
  | some v=>eF is Γ fun t=>k ((i,v)::t)
  | none=>none
theorem gQ {β:Type} {r:β} {Γ:Env}:∀ {is:List Nat} {k:Env→Option β},eF is Γ k=some r→∃ H,k H=some r∧PS H Γ
 | [],k,h=>⟨[],h,trivial⟩
 | i::is,k,h=>by
  unfold eF at h
  cases hv:get Γ i with
  | none=>rw [hv] at h; cases h
  | some v=>
   rw [hv] at h
   obtain ⟨H,h1,h2⟩:=gQ (is:=is) h
   exact ⟨(i,v)::H,h1,hv,h2⟩
theorem zb {Γ Γ':Env} (e:eF (Γ'.map Prod.fst) Γ some=some Γ'):PS Γ' Γ:=by
 obtain ⟨H,h1,h2⟩:=gQ e
 cases h1
 exact h2
def Hy {β:Type} (tt:TT) (ops:Array Oper) (nt:Nat) (o:Oper) (Γ:Env) (k:Env→Option β):Option β:=
 match o.dst with
 | none=>none
 | some d=>bif Nat.blt d nt then (match o.guard with
  | none=>(match ML tt Γ o.op with
   | some v=>k ((d,v)::Γ)
   | none=>none)
  | some (j,b)=>match VT ops j with
   | none=>none
   | some dj=>match get Γ dj with
    | none=>none
    | some v=>bif dD v b then k ((d,undef)::Γ) else (match ML tt Γ o.op with
     | some u=>k ((d,u)::Γ)
     | none=>none)) else none
section
variable {P:Program} [T:ET P] {w0:World} {nt:Nat} {Γ Γ':Env} {F F' G R:List As} {Q:Exit→Act→World→Prop} {ops:Array Oper} {rest:List Oper}
variable {d:Nat} {op:Op} {ty:Nat} {pos:String} {af:Array Edge} {X:List Oper→Act→World→Prop} {Y:Act→World→Prop} {Post:Value→List As→Prop} {C:World→Prop}
theorem Y8 [W:Walk P ops X] {β:Type} {r:β} {o:Oper} {k:Env→Option β} (h:Hy T.tt ops nt o Γ k=some r):∃ Γ',k Γ'=some r∧(St w0 nt Γ' F (X rest)→St w0 nt Γ F (X (o::rest))):=by
 obtain ⟨dst,op,ty,pos,af,g⟩:=o
 cases dst with
 | none=>cases h
 | some d=>
  unfold Hy at h
  simp only at h
  cases hd:Nat.blt d nt with
  | false=>rw [hd] at h; cases h
  | true=>
   rw [hd,cond_true] at h
   cases g with
   | none=>
    simp only at h
    cases hv:ML T.tt Γ op with
    | none=>rw [hv] at h; cases h
    | some v=>
     rw [hv] at h
     exact ⟨_,h,fun k=>.p hd hv k⟩
   | some jb=>
    obtain ⟨j,b⟩:=jb
    simp only at h
    cases hj:VT ops j with
    | none=>rw [hj] at h; cases h
    | some dj=>
     rw [hj] at h
     simp only at h
     cases hg:get Γ dj with
     | none=>rw [hg] at h; cases h
     | some v=>
      rw [hg] at h
      simp only at h
      cases hn:dD v b with
      | true=>
       rw [hn,cond_true] at h
       exact ⟨_,h,fun k=>.Ou hd hj hg hn k⟩
      | false=>
       rw [hn,cond_false] at h
       have hb:v= .bool b:=by
        cases v <;> simp [dD] at hn
        rw [hn]
       cases hv:ML T.tt Γ op with
       | none=>rw [hv] at h; cases h
       | some u=>
        rw [hv] at h
        exact ⟨_,h,fun k=>.BR hj (hb▸hg) (.p hd hv k)⟩
def Hz {β:Type} (tt:TT) (ops:Array Oper) (nt:Nat):Nat→Env→List Oper→(Env→List Oper→Option β)→Option β
 | 0,Γ,l,k=>k Γ l
 | _+1,_, [],_=>none
 | n+1,Γ,o::l,k=>Hy tt ops nt o Γ fun Γ'=>Hz tt ops nt n Γ' l k
theorem Y9 [W:Walk P ops X] {β:Type} {r:β} {k:Env→List Oper→Option β}:∀ {n:Nat} {Γ:Env} {l:List Oper},Hz T.tt ops nt n Γ l k=some r→∃ Γ' l',k Γ' l'=some r∧(St w0 nt Γ' F (X l')→St w0 nt Γ F (X l))
 | 0,Γ,l,h=>⟨Γ,l,h,id⟩
 | _+1,_, [],h=>by cases h
 | n+1,Γ,o::l,h=>by
  obtain ⟨Γ1,h1,h2⟩:=Y8 (P:=P) (w0:=w0) (F:=F) (X:=X) (rest:=l) h
  obtain ⟨Γ2,l2,h3,h4⟩:=Y9 (n:=n) h1
  exact ⟨Γ2,l2,h3,fun h=>h2 (h4 h)⟩
def WB {β:Type} (tt:TT) (ops:Array Oper) (nt:Nat):Env→List Oper→(Env→Option β)→Option β
 | Γ, [],k=>k Γ
 | Γ,o::l,k=>Hy tt ops nt o Γ fun Γ'=>WB tt ops nt Γ' l k
theorem cZ [W:Walk P ops X] {β:Type} {r:β} {k:Env→Option β}:∀ {l:List Oper} {Γ:Env},WB T.tt ops nt Γ l k=some r→∃ Γ',k Γ'=some r∧(St w0 nt Γ' F (X [])→St w0 nt Γ F (X l))
 | [],Γ,h=>⟨Γ,h,id⟩
 | o::l,Γ,h=>by
  obtain ⟨Γ1,h1,h2⟩:=Y8 (P:=P) (w0:=w0) (F:=F) (X:=X) (rest:=l) h
  obtain ⟨Γ2,h3,h4⟩:=cZ (l:=l) h1
  exact ⟨Γ2,h3,fun h=>h2 (h4 h)⟩
theorem St.n [W:Walk P ops X] (n:Nat) {l l':List Oper} (e:Hz T.tt ops nt n Γ l (fun Γ l=>some (Γ,l))=some (Γ',l')) (k:St w0 nt Γ' F (X l')):St w0 nt Γ F (X l):=by
 obtain ⟨Γ1,l1,h1,h2⟩:=Y9 (P:=P) (w0:=w0) (F:=F) (X:=X) e
 cases h1
 exact h2 k
theorem St.a (n:Nat) {id:Nat} {l l':List Oper} {y:Code} (e:Hz T.tt l.toArray nt n Γ l (fun Γ l=>some (Γ,l))=some (Γ',l')) (k:St w0 nt Γ' F (wpList P l.toArray (Exit.then (y.wp P Q) Q) l')):
  St w0 nt Γ F ((Code.seq (Code.region id l.toArray false) y).wp P Q):=.seq (.region (.n n e k))
theorem St.b (is:List Nat) {l:List Oper} {Qn:Act→World→Prop} (e:WB T.tt ops nt Γ l (fun Γ=>eF is Γ some)=some Γ') (k:St w0 nt Γ' F Qn):St w0 nt Γ F (wpList P ops (Exit.then Qn Q) l):=by
 obtain ⟨Γ1,h1,h2⟩:=cZ (P:=P) (w0:=w0) (F:=F) (X:=wpList P ops (Exit.then Qn Q)) e
 obtain ⟨H,h3,h4⟩:=gQ h1
 cases h3
 exact h2 (.done (.AB (.slots h4 k)))
theorem St.bf (is ks:List Nat) (d:Nat) {l:List Oper} {Qn:Act→World→Prop} (e:WB T.tt ops nt Γ l (fun Γ=>eF is Γ some)=some Γ') (e':QZ ks d F some=some F') (k:St w0 nt Γ' F' Qn):St w0 nt Γ F (wpList P ops (Exit.then Qn Q) l):=
 .b is e (.AQ (zl ks d e') k)
theorem St.bq (is:List Nat) {l:List Oper} {Qn:Act→World→Prop} (e:WB T.tt ops nt Γ l (fun Γ=>eF is Γ some)=some Γ') (k:St w0 nt Γ' F Qn):St w0 nt Γ F (WR P ops (Exit.then Qn Q) l):=by
 obtain ⟨Γ1,h1,h2⟩:=cZ (P:=P) (w0:=w0) (F:=F) (X:=WR P ops (Exit.then Qn Q)) e
 obtain ⟨H,h3,h4⟩:=gQ h1
 cases h3
 exact h2 (.XT (.AB (.slots h4 k)))
theorem St.ab (is:List Nat) {id:Nat} {l:List Oper} {y:Code} (e:WB T.tt l.toArray nt Γ l (fun Γ=>eF is Γ some)=some Γ') (k:St w0 nt Γ' F (y.wp P Q)):
  St w0 nt Γ F ((Code.seq (Code.region id l.toArray false) y).wp P Q):=.seq (.region (.b is e k))
theorem St.EQ (is ks:List Nat) (d:Nat) {id:Nat} {l:List Oper} {y:Code} (e:WB T.tt l.toArray nt Γ l (fun Γ=>eF is Γ some)=some Γ') (e':QZ ks d F some=some F') (k:St w0 nt Γ' F' (y.wp P Q)):
  St w0 nt Γ F ((Code.seq (Code.region id l.toArray false) y).wp P Q):=.seq (.region (.bf is ks d e e' k))
theorem St.be {l:List Oper} {Qn:Act→World→Prop} (e:WB T.tt ops nt Γ l some=some Γ') (k:St w0 nt Γ' F Qn):St w0 nt Γ F (wpList P ops (Exit.then Qn Q) l):=by
 obtain ⟨Γ1,h1,h2⟩:=cZ (P:=P) (w0:=w0) (F:=F) (X:=wpList P ops (Exit.then Qn Q)) e
 cases h1
 exact h2 (.done (.AB k))
theorem St.beq {l:List Oper} {Qn:Act→World→Prop} (e:WB T.tt ops nt Γ l some=some Γ') (k:St w0 nt Γ' F Qn):St w0 nt Γ F (WR P ops (Exit.then Qn Q) l):=by
 obtain ⟨Γ1,h1,h2⟩:=cZ (P:=P) (w0:=w0) (F:=F) (X:=WR P ops (Exit.then Qn Q)) e
 cases h1
 exact h2 (.XT (.AB k))
theorem St.ae {id:Nat} {l:List Oper} {y:Code} (e:WB T.tt l.toArray nt Γ l some=some Γ') (k:St w0 nt Γ' F (y.wp P Q)):
  St w0 nt Γ F ((Code.seq (Code.region id l.toArray false) y).wp P Q):=.seq (.region (.be e k))
theorem St.pr (is:List Nat) (e:eF is Γ some=some Γ') (k:St w0 nt Γ' F Y):St w0 nt Γ F Y:=by
 obtain ⟨H,h3,h4⟩:=gQ e
 cases h3
 exact .slots h4 k
theorem St.pf (is ks:List Nat) (d:Nat) (e:eF is Γ some=some Γ') (e':QZ ks d F some=some F') (k:St w0 nt Γ' F' Y):St w0 nt Γ F Y:=
 .pr is e (.AQ (zl ks d e') k)
theorem St.ss {v:Value} (i:Nat) (h:get Γ i=some v) (k:St w0 nt ((i,v)::Γ) F Y):St w0 nt Γ F Y:=
 fun a w hs hdf ha hf hw=>k a w hs hdf (At.cons (ha i v h) ha) hf hw
theorem St.nm (n:Nat) (e:ng n F some=some F') (k:St w0 nt Γ F' Y):St w0 nt Γ F Y:=by
 have:=Y7 e
 cases this
 exact k
theorem St.sk {n:Act→World→Prop} (k:St w0 nt Γ F n):St w0 nt Γ F (Code.skip.wp P (Exit.then n Q)):=.skip (.AB k)
theorem St.cb {c:Operand} {x y:Code} {α:Type} {b:Bool} {p q r:α} (h:(bif b then p else q)=r) (hc:ev Γ c=some (.bool b)) (ht:p=r→St w0 nt Γ F (x.wp P Q)) (hf:q=r→St w0 nt Γ F (y.wp P Q)):
  St w0 nt Γ F ((Code.cond c x y).wp P Q):=.cond b hc (fun e=>ht (Ph e h)) (fun e=>hf (Pj e h))
theorem St.rt {fn:Func} {v:Value} {rs:List ResultVar} {vs:List Value} {F':List As} (hq:Q .ret=bodyPost P fn (Out w0 R Post) .ret) (hrs:fn.results=rs.toArray) (hv:PW T.tt Γ F rs vs) (h1:PV vs=some v) (hp:Post v F') (hs:∀ w,Sat F w→Sat (F'++R) w):
  St w0 nt Γ F (Code.ret.wp P Q):=.ret (hq▸St.MN hrs hv h1 F' hp hs)
end
inductive Si where
 | k (i:Nat)
 | s (i:Nat) (v:Value)
inductive Fi where
 | k (i:Nat)
 | ro (r:Ro)
 | res (r:OY)
instance (n:Nat):OfNat Si n:=⟨.k n⟩
instance (n:Nat):OfNat Fi n:=⟨.k n⟩
def ZX {β:Type} (Γ:Env):List Si→(Env→Option β)→Option β
 | [],k=>k []
 | .k i::l,k=>match get Γ i with
  | some v=>ZX Γ l fun t=>k ((i,v)::t)
  | none=>none
 | .s i v::l,k=>ZX Γ l fun t=>k ((i,v)::t)
def YG {β:Type} (F:List As) (n:Nat):List Fi→(List As→Option β)→Option β
 | [],k=>zx n F k
 | .k i::l,k=>RY i F fun x=>YG F n l fun t=>k (x::t)
 | .ro r::l,k=>YG F n l fun t=>k (.ro r::t)
 | .res r::l,k=>YG F n l fun t=>k (.res r::t)
def Rh {β:Type}:Nat→Nat→List As→(List As→Option β)→Option β
 | 0,b,F,k=>zx b F k
 | _+1,_, [],_=>none
 | a+1,b,x::F,k=>Rh a b F fun t=>k (x::t)
theorem mM.drop {H:List As}:∀ {D:List As},mM (D++H) H
 | []=>.z
 | _::_=>.d mM.drop
theorem Z4 {β:Type} {r:β}:∀ {a b:Nat} {F:List As} {k:List As→Option β},Rh a b F k=some r→∃ G,k G=some r∧mM F G
 | 0,b,F,k,h=>by
  obtain ⟨D,H,h1,h2⟩:=Qz h
  subst h1
  exact ⟨H,h2,mM.drop⟩
 | _+1,_, [],_,h=>by cases h
 | a+1,b,x::F,k,h=>by
  obtain ⟨G,h1,h2⟩:=Z4 (a:=a) h
  exact ⟨x::G,h1, .k h2⟩
theorem sdx {F F':List As} {k:List As→Option (List As)} (js is:List Nat) (d:Nat) (e:QZ is d F (fun H=>XB js H k)=some F'):∃ G,k G=some F'∧∀ w,Sat F w→Sat G w:=by
 obtain ⟨H,D,h1,hp⟩:=Ht e
 obtain ⟨G,h2,h3,h4⟩:=Rf h1
 refine ⟨_,h4,fun w h=>?_⟩
 have hH:=h.part hp
 have hG:=fL h2
 refine hH.JH ?_ fun x hx=>?_
 ·rw [rU,kY (F:=G) fun x hx=>by obtain ⟨r,rfl⟩:=hG x hx; rfl]
  simpa using hH.nodup
 ·rcases List.mem_append.1 hx with hx | hx
  ·exact h3 x hx
  ·exact hx
theorem zk {F F':List As} (a b:Nat) (js is:List Nat) (d:Nat) (e:QZ is d F (fun H=>XB js H fun t=>Rh a b t some)=some F'):∀ w,Sat F w→Sat F' w:=by
 obtain ⟨G,h1,h2⟩:=sdx js is d e
 obtain ⟨G',h3,h4⟩:=Z4 h1
 cases h3
 exact fun w h=>h4.sat (h2 w h)
theorem en {P:Program} {f:FuncId} {fn:Func} (h:P.funcs[f]? =some fn) (k:(fn.name== "runtime.NumGoroutine",fn.body.isNone)=(false,false)):BV P f:=by
 injection k with k1 k2
 exact ⟨fn,h,k1,k2⟩
theorem zw {F:List As}:∀ w,Sat F w→Sat F w:=fun _ w=>w
class XQ (Q:Exit→Act→World→Prop) (i:Nat) (Y:outParam (Act→World→Prop)) (b:outParam Bool):Prop where
 h:b=true→∀ a w,Y a w→Q (.exit i) a w
instance (priority:=900) {n:Act→World→Prop} {Q:Exit→Act→World→Prop} {i:Nat} {Y:Act→World→Prop} {b:Bool} [k:XQ Q i Y b]:XQ (Exit.then n Q) i Y b:=⟨k.h⟩
instance (priority:=1000) {Q:Exit→Act→World→Prop} {i:Nat}:XQ (Exit.inBlock i Q) i (Q .normal) true:=⟨fun _ a w h=>by simpa [Exit.inBlock] using h⟩
instance (priority:=800) {Q:Exit→Act→World→Prop} {i j:Nat} {Y:Act→World→Prop} {b:Bool} [k:XQ Q i Y b]:XQ (Exit.inBlock j Q) i Y (!Nat.beq i j&&b):=⟨fun hb a w h=>by
 simp only [Bool.and_eq_true,Bool.not_eq_true'] at hb
 have:i≠j:=fun e=>by subst e; simp at hb
 simpa [Exit.inBlock,this] using k.h hb.2 a w h⟩
def Ia {β:Type} (tt:TT) (Γ:Env) (F:List As):List ResultVar→(List Value→Option β)→Option β
 | [],k=>k []
 | .tmp t::rs,k=>match get Γ t with
  | some v=>Ia tt Γ F rs fun vs=>k (v::vs)
  | none=>none
 | _,_=>none
theorem Z5 {β:Type} {r:β} {tt:TT} {Γ:Env} {F:List As}:∀ {rs:List ResultVar} {k:List Value→Option β},Ia tt Γ F rs k=some r→∃ vs,PW tt Γ F rs vs∧k vs=some r
 | [],k,h=>⟨[], .nil,h⟩
 | .tmp t::rs,k,h=>by
  unfold Ia at h
  cases hv:get Γ t with
  | none=>rw [hv] at h; cases h
  | some v=>
   rw [hv] at h
   obtain ⟨vs,h1,h2⟩:=Z5 (rs:=rs) h
   exact ⟨v::vs, .tmp hv h1,h2⟩
 | .cell _ _::_,k,h=>by cases h
section
variable {P:Program} [T:ET P] {w0:World} {nt:Nat} {Γ Γ':Env} {F F' G R:List As} {Q:Exit→Act→World→Prop} {ops:Array Oper} {rest:List Oper}
variable {d:Nat} {op:Op} {ty:Nat} {pos:String} {af:Array Edge} {X:List Oper→Act→World→Prop} {Y:Act→World→Prop} {Post:Value→List As→Prop} {C:World→Prop}
theorem St.DZ {ε:Type} {c:Code} {n:Act→World→Prop} {Γs:ε→Env} {Fs:ε→List As} (m:Nat) (Γt:ε→List Si) (Ft:ε→List Fi) (_:(fun e=>ZX Γ (Γt e) some)=fun e=>some (Γs e)) (_:(fun e=>YG F m (Ft e) some)=fun e=>some (Fs e))
  (h1:St w0 nt Γ F (c.wp P (Exit.then (fun a w=>∃ e,a.tmps.size=nt∧a.defers= []∧At a (Γs e)∧Sat (Fs e) w∧Same w0 w) Q))) (h2:∀ e,St w0 nt (Γs e) (Fs e) n):St w0 nt Γ F (c.wp P (Exit.then n Q)):=.vz Γs Fs h1 h2
theorem St.EJ {σ ε:Type} {c:Code} {n:Act→World→Prop} {Γs:σ→ε→Env} {Fs:σ→ε→List As} (m:Nat) (Γt:σ→ε→List Si) (Ft:σ→ε→List Fi) (_:(fun s e=>ZX Γ (Γt s e) some)=fun s e=>some (Γs s e)) (_:(fun s e=>YG F m (Ft s e) some)=fun s e=>some (Fs s e))
  (I:σ→Prop) (h1:St w0 nt Γ F (c.wp P (Exit.then (fun a w=>∃ s e,I s∧a.tmps.size=nt∧a.defers= []∧At a (Γs s e)∧Sat (Fs s e) w∧Same w0 w) Q))) (h2:∀ s e,I s→St w0 nt (Γs s e) (Fs s e) n):St w0 nt Γ F (c.wp P (Exit.then n Q)):=.Pn Γs Fs I h1 h2
theorem St.cu {c:Code} {n:Act→World→Prop} (m:Nat) (Γt:List Si) (Ft:List Fi) (_:ZX Γ Γt some=some Γ') (_:YG F m Ft some=some F')
  (h1:St w0 nt Γ F (c.wp P (Exit.then (fun a w=>∃ _:Unit,a.tmps.size=nt∧a.defers= []∧At a Γ'∧Sat F' w∧Same w0 w) Q))) (h2:St w0 nt Γ' F' n):St w0 nt Γ F (c.wp P (Exit.then n Q)):=.vz (fun _=>Γ') (fun _=>F') h1 fun _=>h2
theorem St.hU {Γs:Unit→Env} {Fs:Unit→List As} (hΓ:eF ((Γs ()).map Prod.fst) Γ some=some (Γs ())) (hF:∀ w,Sat F w→Sat (Fs ()) w):St w0 nt Γ F (fun a w=>∃ e:Unit,a.tmps.size=nt∧a.defers= []∧At a (Γs e)∧Sat (Fs e) w∧Same w0 w):=.LJ () (zb hΓ) hF
theorem St.hE {ε:Type} {Γs:ε→Env} {Fs:ε→List As} (e:ε) (hΓ:eF ((Γs e).map Prod.fst) Γ some=some (Γs e)) (hF:∀ w,Sat F w→Sat (Fs e) w):St w0 nt Γ F (fun a w=>∃ e,a.tmps.size=nt∧a.defers= []∧At a (Γs e)∧Sat (Fs e) w∧Same w0 w):=.LJ e (zb hΓ) hF
theorem St.ag {σ τ ε:Type} {m:σ→Option (vM σ τ)} {s s':σ} {Γs:σ→ε→Env} {Fs:σ→ε→List As} (e':ε) (hm:m s=some (.next s')) (hΓ:eF ((Γs s' e').map Prod.fst) Γ some=some (Γs s' e')) (hF:∀ w,Sat F w→Sat (Fs s' e') w):
  St w0 nt Γ F (Gm nt w0 m s Γs Fs fun _ _=>True):=.again s' e' hm trivial (zb hΓ) hF
theorem St.BH [AO] {σ τ ε:Type} {m:σ→Option (vM σ τ)} {s0:σ} {out:τ} {c:Code} {Γs:σ→ε→Env} {Fs:σ→ε→List As} (hm:zI m s0=some out) (k:Nat) (Γt:σ→ε→List Si) (Ft:σ→ε→List Fi)
  (_:(fun s e=>ZX Γ (Γt s e) some)=fun s e=>some (Γs s e)) (_:(fun s e=>YG F k (Ft s e) some)=fun s e=>some (Fs s e)) (e0:ε) (hΓ:PS (Γs s0 e0) Γ) (hF:∀ w,Sat F w→Sat (Fs s0 e0) w)
  (round:∀ s e st,m s=some st→(∀ t,st= .done t→out=t)→m s=some st→St w0 nt (Γs s e) (Fs s e) (c.wp P (Exit.then (Gm nt w0 m s Γs Fs fun _ _=>True) Q))):St w0 nt Γ F ((Code.loop c).wp P Q):=
 .loop hm Γs Fs (fun _ _=>True) e0 trivial hΓ hF fun s e _ h=>by
  obtain ⟨st,h1,h2⟩:=zWa h
  exact round s e st h1 h2 h1
theorem St.xq {i:Nat} {b:Bool} [k:XQ Q i Y b] (hb:b=true) (h:St w0 nt Γ F Y):St w0 nt Γ F ((Code.exit i).wp P Q):=.exit fun a w hs hd ha hf hw=>k.h hb a w (h a w hs hd ha hf hw)
theorem St.EC {ε:Type} {X Y:Act→World→Prop} {Γs:ε→Env} {Fs:ε→List As} (m:Nat) (Γt:ε→List Si) (Ft:ε→List Fi) (_:(fun e=>ZX Γ (Γt e) some)=fun e=>some (Γs e)) (_:(fun e=>YG F m (Ft e) some)=fun e=>some (Fs e))
  (h1:(∀ Γ₁ F₁ e,PS (Γs e) Γ₁→(∀ w,Sat F₁ w→Sat (Fs e) w)→St w0 nt Γ₁ F₁ Y)→St w0 nt Γ F X) (h2:∀ e,St w0 nt (Γs e) (Fs e) Y):St w0 nt Γ F X:=.share Γs Fs h1 h2
theorem St.bd {α β:Type} {m:Option α} {k:α→Option β} {r:β} (h:bnd m k=some r) (g:∀ x,m=some x→k x=some r→St w0 nt Γ F Y):St w0 nt Γ F Y:=by
 obtain ⟨x,h1,h2⟩:=zYd h
 exact g x h1 h2
theorem St.gs {dst:Option Nat} {j:Nat} {b:Bool} {c:Bool} {α:Type} {p q r:α} (dj:Nat) (h:(bif c then p else q)=r) (hg:get Γ dj=some (.bool c))
  (ht:p=r→St w0 nt ((dj, .bool true)::Γ) F (X (⟨dst,op,ty,pos,af,some (j,b)⟩::rest))) (OZ:q=r→St w0 nt ((dj, .bool false)::Γ) F (X (⟨dst,op,ty,pos,af,some (j,b)⟩::rest))):
  St w0 nt Γ F (X (⟨dst,op,ty,pos,af,some (j,b)⟩::rest)):=.ZN c hg (fun e=>ht (Ph e h)) (fun e=>OZ (Pj e h))
theorem St.lb [W:Walk P ops X] {t:Nat} {x:Operand} {g t':Nat} {cs:List Value} {v:Value} (off i:Nat) (e:(Nat.blt d nt,ev Γ x,RY i F some,rF T.tt t cs off)=(true,some (.pointer (some ⟨g,off,none⟩)),some (.res (Box g t' cs)),some v))
  (k:St w0 nt ((d,v)::Γ) F (X rest)):St w0 nt Γ F (X (⟨some d, .load t x,ty,pos,af,none⟩::rest)):=by
 injection e with e1 e
 injection e with e2 e
 injection e with e3 e4
 exact .JJ off e1 e2 (zm i e3) O e4 k
theorem St.sb {t:Nat} {x y:Operand} {g t':Nat} {i:TI} {cs cs':List Value} {v:Value} {G:List As} (off n:Nat) (e:(zu n F (fun x G=>some (x,G)),ev Γ x,ev Γ y,zY T.tt t,rA cs off (zc v) some,Nat.beq (zc v).length i.size,(zc v).all fun u=>u.oneCell')=(some (.res (Box g t' cs),G),some (.pointer (some ⟨g,off,none⟩)),some v,some i,some cs',true,true))
  (k:St w0 nt Γ (.res (Box g t' cs')::G) (wpList P ops Q rest)):St w0 nt Γ F (wpList P ops Q (⟨none, .store t x y,ty,pos,af,none⟩::rest)):=by
 injection e with e1 e
 injection e with e2 e
 injection e with e3 e
 injection e with e4 e
 injection e with e5 e
 injection e with e6 e7
 exact .store off e2 e3 O e4 e6 e7 (zi n e1) e5 k
theorem St.cq {f:FuncId} {args:List Value} {x:Operand} {xs:List Operand} {ts:Array Nat} {V:Value} {L:List As} (n:Nat) (js is:List Nat) (q:Nat) (h:AX P f args G (fun v F=>v=V∧F=L)) (he:BV P f)
  (e:(Nat.blt d nt,ev Γ x,evs Γ xs,QZ is q F (fun H=>XB js H some),ng n (L++R) some)=(true,some (.func (.func f) #[] #[]),some args,some (G++R),some F')) (k:St w0 nt ((d,V)::Γ) F' (wpList P ops Q rest)):
  St w0 nt Γ F (wpList P ops Q (⟨some d, .call { callee:=.value x,args:=xs.toArray,argTypes:=ts },ty,pos,af,none⟩::rest)):=by
 injection e with e1 e
 injection e with e2 e
 injection e with e3 e
 injection e with e4 e5
 refine .call h he e1 e2 e3 (zd js is q e4) ?_
 rintro _ _ ⟨rfl,rfl⟩
 exact .nm n e5 k
theorem St.cr {f:FuncId} {args:List Value} {x:Operand} {xs:List Operand} {ts:Array Nat} {V:Option Addr→Nat→Value} {L:Option Addr→Nat→List As} {F':Option Addr→Nat→List As} (n:Nat) (js is:List Nat) (q:Nat)
  (h:AX P f args G (fun v F=>∃ (A:Option Addr) (c:Nat),v=V A c∧F=L A c)) (he:BV P f)
  (e:(Nat.blt d nt,ev Γ x,evs Γ xs,QZ is q F (fun H=>XB js H some),fun A c=>ng n (L A c++R) some)=(true,some (.func (.func f) #[] #[]),some args,some (G++R),fun A c=>some (F' A c)))
  (k:∀ A c,St w0 nt ((d,V A c)::Γ) (F' A c) (wpList P ops Q rest)):
  St w0 nt Γ F (wpList P ops Q (⟨some d, .call { callee:=.value x,args:=xs.toArray,argTypes:=ts },ty,pos,af,none⟩::rest)):=by
 injection e with e1 e
 injection e with e2 e
 injection e with e3 e
 injection e with e4 e5
 refine .call h he e1 e2 e3 (zd js is q e4) ?_
 rintro _ _ ⟨A,c,rfl,rfl⟩
 exact .nm n (congrFun (congrFun e5 A) c) (k A c)
theorem St.ct {f:FuncId} {args:List Value} {x:Operand} {xs:List Operand} {ts:Array Nat} {V:Option Addr→Nat→Option Addr→Nat→Value} {L:Option Addr→Nat→Option Addr→Nat→List As} {F':Option Addr→Nat→Option Addr→Nat→List As} (n:Nat) (js is:List Nat) (q:Nat)
  (h:AX P f args G (fun v F=>∃ (A:Option Addr) (c:Nat) (B:Option Addr) (b:Nat),v=V A c B b∧F=L A c B b)) (he:BV P f)
  (e:(Nat.blt d nt,ev Γ x,evs Γ xs,QZ is q F (fun H=>XB js H some),fun A c B b=>ng n (L A c B b++R) some)=(true,some (.func (.func f) #[] #[]),some args,some (G++R),fun A c B b=>some (F' A c B b)))
  (k:∀ A c B b,St w0 nt ((d,V A c B b)::Γ) (F' A c B b) (wpList P ops Q rest)):
  St w0 nt Γ F (wpList P ops Q (⟨some d, .call { callee:=.value x,args:=xs.toArray,argTypes:=ts },ty,pos,af,none⟩::rest)):=by
 injection e with e1 e
 injection e with e2 e
 injection e with e3 e
 injection e with e4 e5
 refine .call h he e1 e2 e3 (zd js is q e4) ?_
 rintro _ _ ⟨A,c,B,b,rfl,rfl⟩
 exact .nm n (congrFun (congrFun (congrFun (congrFun e5 A) c) B) b) (k A c B b)
theorem St.cv [W:Walk P ops X] {f:FuncId} {args:List Value} {v:Value} {x:Operand} {xs:List Operand} {ts:Array Nat} (is:List Nat) (h:AX P f args G (Val v)) (he:BV P f)
  (e:(Nat.blt d nt,ev Γ x,evs Γ xs,iO G,Hw is F some)=(true,some (.func (.func f) #[] #[]),some args,true,some G)) (k:St w0 nt ((d,v)::Γ) F (X rest)):
  St w0 nt Γ F (X (⟨some d, .call { callee:=.value x,args:=xs.toArray,argTypes:=ts },ty,pos,af,none⟩::rest)):=by
 injection e with e1 e
 injection e with e2 e
 injection e with e3 e
 injection e with e4 e5
 exact .XY h he e1 e2 e3 e4 (za is e5) k
theorem St.rv {fn:Func} {v:Value} {F':List As} (hq:Q .ret=bodyPost P fn (Out w0 R Post) .ret) (e:Ia T.tt Γ F fn.results.toList PV=some v) (hp:Post v F') (hs:∀ w,Sat F w→Sat (F'++R) w):
  St w0 nt Γ F (Code.ret.wp P Q):=by
 obtain ⟨vs,h1,h2⟩:=Z5 e
 exact .rt hq (by simp) h1 h2 hp hs
theorem St.FB [W:Walk P ops X] {α:Type} {E:Enc α} {t e:Nat} {i j:TI} {x ix:Operand} {A:Option Addr} {c:Nat} {kk:IntKind} {q:Int} {xs:List α} {y:α} (hy:AU xs q=some y) (m:Nat)
  (h:(Nat.blt d nt,ev Γ x,ev Γ ix,RY m F some,zY T.tt t,i.desc,zY T.tt e,j.size)=(true,some (.slice A xs.length c),some (.int kk q),some (.ro (BP E A c xs)),some i, .slice e,some j,E.sz))
  (k:∀ b o,St w0 nt ((d, .pointer (some ⟨b,o,none⟩))::Γ) (.ro (vJ b o (E.enc y))::F) (X rest)):St w0 nt Γ F (X (⟨some d, .indexAddr t x ix,ty,pos,af,none⟩::rest)):=by
 simp only [Prod.mk.injEq] at h
 exact .LK hy h.1 h.2.1 h.2.2.1 (zm m h.2.2.2.1) O h.2.2.2.2.1 h.2.2.2.2.2.1 h.2.2.2.2.2.2.1 h.2.2.2.2.2.2.2 k
theorem St.II [W:Walk P ops X] {α:Type} {E:Enc α} {t e e':Nat} {i j:TI} {x ix:Operand} {A:Option Addr} {c:Nat} {kk:IntKind} {q:Int} {xs:List α} {y:α} (hy:AU xs q=some y) (m:Nat)
  (h:(Nat.blt d nt,ev Γ x,ev Γ ix,RY m F some,zY T.tt t,i.desc,zY T.tt e,j.size)=(true,some (.slice A xs.length c),some (.int kk q),some (.res (zD E e' A c xs)),some i, .slice e,some j,E.sz))
  (k:∀ g,A=some ⟨g,0,none⟩→St w0 nt ((d, .pointer (some ⟨g,q.toNat*E.sz,none⟩))::Γ) F (X rest)):St w0 nt Γ F (X (⟨some d, .indexAddr t x ix,ty,pos,af,none⟩::rest)):=by
 simp only [Prod.mk.injEq] at h
 exact .FO hy h.1 h.2.1 h.2.2.1 (zm m h.2.2.2.1) O h.2.2.2.2.1 h.2.2.2.2.2.1 h.2.2.2.2.2.2.1 h.2.2.2.2.2.2.2 k
theorem St.RZ [W:Walk P ops X] {α:Type} {ls:List (LC α)} {t e:Nat} {i j:TI} {x ix:Operand} {A:Option Addr} {c:Nat} {kk:IntKind} {q:Int} {xs:List α} {y:α} (hy:AU xs q=some y) (m:Nat)
  (h:(Nat.blt d nt,ev Γ x,ev Γ ix,RY m F some,zY T.tt t,i.desc,zY T.tt e,j.size)=(true,some (.slice A xs.length c),some (.int kk q),some (.ro (Sl (yL ls) A c xs)),some i, .slice e,some j,ls.length))
  (k:∀ b o (ex:JW ls),St w0 nt ((d, .pointer (some ⟨b,o,none⟩))::Γ) (.ro (vJ b o (rM y ls ex))::(tS y ls ex++F)) (X rest)):St w0 nt Γ F (X (⟨some d, .indexAddr t x ix,ty,pos,af,none⟩::rest)):=by
 simp only [Prod.mk.injEq] at h
 exact .Qi hy h.1 h.2.1 h.2.2.1 (zm m h.2.2.2.1) O h.2.2.2.2.1 h.2.2.2.2.2.1 h.2.2.2.2.2.2.1 h.2.2.2.2.2.2.2 k
theorem St.ld [W:Walk P ops X] {t:Nat} {x:Operand} {b:Nat} {cs:List Value} {v:Value} (o:Nat) (off m:Nat) (h:(Nat.blt d nt,ev Γ x,RY m F some,rF T.tt t cs off)=(true,some (.pointer (some ⟨b,o+off,none⟩)),some (.ro (vJ b o cs)),some v))
  (k:St w0 nt ((d,v)::Γ) F (X rest)):St w0 nt Γ F (X (⟨some d, .load t x,ty,pos,af,none⟩::rest)):=by
 simp only [Prod.mk.injEq] at h
 exact .load o off h.1 h.2.1 (zm m h.2.2.1) O h.2.2.2 k
theorem St.bS {t e n:Nat} {i j:TI} {ps:Array (Nat × Operand)} {cs:List Value} (h:(Nat.blt d nt,zY T.tt t,i.desc,zY T.tt e,Nat.beq (zc j.zero).length j.size,Nat.blt 0 j.size,XW Γ (fun i=>some (i*j.size,j.size)) (PE n (zc j.zero)) ps.toList,Nat.ble (n*j.size) 16777216)=(true,some i, .slice e,some j,true,true,some cs,true))
  (k:∀ g,St w0 nt ((d, .slice (some ⟨g,0,none⟩) n n)::Γ) (.res (Box g e cs)::F) (wpList P ops Q rest)):St w0 nt Γ F (wpList P ops Q (⟨some d, .buildSlice t n ps,ty,pos,af,none⟩::rest)):=by
 simp only [Prod.mk.injEq] at h
 exact .buildSlice h.1 h.2.1 h.2.2.1 h.2.2.2.1 h.2.2.2.2.1 h.2.2.2.2.2.1 h.2.2.2.2.2.2.1 h.2.2.2.2.2.2.2 k
theorem St.sB {X:Act→World→Prop} {c:Bool} {α:Type} {p q r:α} (dj:Nat) (h:(bif c then p else q)=r) (hg:get Γ dj=some (.bool c)) (ht:p=r→St w0 nt ((dj, .bool true)::Γ) F X) (OZ:q=r→St w0 nt ((dj, .bool false)::Γ) F X):St w0 nt Γ F X:=
 .splitB c hg (fun e=>ht (Ph e h)) (fun e=>OZ (Pj e h))
theorem St.yl {t:Nat} {x:Operand} {g t':Nat} {cs:List Value} {v:Value} {F₁:List As} {Qn:Act→World→Prop} {rest:Tr} {i:Nat} (off m:Nat) (h:(Nat.blt d nt,ev Γ x,RY m F₁ some,rF T.tt t cs off)=(true,some (.pointer (some ⟨g,off,none⟩)),some (.res (Box g t' cs)),some v))
  (k:St w0 nt ((d,v)::Γ) F (FZ P ops (Sat F₁) Qn rest)):St w0 nt Γ F (FZ P ops (Sat F₁) Qn (.st ⟨.fl,i,⟨some d, .load t x,ty,pos,af,none⟩⟩ rest)):=by
 simp only [Prod.mk.injEq] at h
 exact .IG (fun _ h=>h) (Rd.JJ off h.2.1 (zm m h.2.2.1) O h.2.2.2) h.1 k
theorem St.yx {t:Nat} {x:Operand} {g t':Nat} {cs:List Value} {v:Value} {Qn:Act→World→Prop} {rest:Tr} {i:Nat} (off m:Nat) (h:(Nat.blt d nt,ev Γ x,RY m F some,rF T.tt t cs off)=(true,some (.pointer (some ⟨g,off,none⟩)),some (.res (Box g t' cs)),some v))
  (k:St w0 nt ((d,v)::Γ) F (FZ P ops C Qn rest)):St w0 nt Γ F (FZ P ops C Qn (.st ⟨.fx,i,⟨some d, .load t x,ty,pos,af,none⟩⟩ rest)):=by
 simp only [Prod.mk.injEq] at h
 exact .DR (Rd.JJ off h.2.1 (zm m h.2.2.1) O h.2.2.2) h.1 k
def tg4:Nat→Tg
 | 0=>.fl
 | 1=>.fx
 | 2=>.qc
 | _=>.ef
def iN:List Nat→YB→YB
 | [],t=>t
 | n::r,t=>.st (tg4 (n % 4)) (n / 4) (iN r t)
def zy:Tg→Bool
 | .fl=>true
 | .fx=>true
 | _=>false
def ni {β:Type} (tt:TT) (ops:Array Oper) (nt:Nat):Nat→Env→Tr→(Env→Tr→Option β)→Option β
 | 0,Γ,t,k=>k Γ t
 | _+1,_, .nil,_=>none
 | _+1,_, .alt _ _,_=>none
 | n+1,Γ, .st z t,k=>match z.o.dst with
  | none=>none
  | some d=>bif Nat.blt d nt then (match z.o.guard with
   | none=>bif zy z.t then (match ML tt Γ z.o.op with
    | some v=>ni tt ops nt n ((d,v)::Γ) t k
    | none=>none) else none
   | some (j,b)=>match VT ops j with
    | none=>none
    | some dj=>match get Γ dj with
     | none=>none
     | some v=>bif dD v b then ni tt ops nt n ((d,undef)::Γ) t k else (bif zy z.t then (match ML tt Γ z.o.op with
      | some u=>ni tt ops nt n ((d,u)::Γ) t k
      | none=>none) else none)) else none
theorem bL {β:Type} {r:β} {k:Env→Tr→Option β} {Qn:Act→World→Prop}:∀ {n:Nat} {Γ:Env} {t:Tr},ni T.tt ops nt n Γ t k=some r→∃ Γ' t',k Γ' t'=some r∧(St w0 nt Γ' F (FZ P ops C Qn t')→St w0 nt Γ F (FZ P ops C Qn t))
  | 0,Γ,t,h=>⟨Γ,t,h,id⟩
  | _+1,_, .nil,h=>by cases h
  | _+1,_, .alt _ _,h=>by cases h
  | n+1,Γ, .st ⟨g,i,⟨dst,op,ty,pos,af,gd⟩⟩ t,h=>by
    unfold ni at h
    cases dst with
    | none=>cases h
    | some d=>
      simp only at h
      cases hd:Nat.blt d nt with
      | false=>rw [hd] at h; cases h
      | true=>
        rw [hd] at h
        simp only [cond_true] at h
        have hp:∀ {u:Value} {Γ':Env},zy g=true→ML T.tt Γ' op=some u→St w0 nt ((d,u)::Γ') F (FZ P ops C Qn t)→St w0 nt Γ' F (FZ P ops C Qn (.st ⟨g,i,⟨some d,op,ty,pos,af,none⟩⟩ t)):=fun hg hv k=>by
          cases g with
          | fl=>exact .IG (F₁:= []) (fun w _=>Sat.nil w) (Rd.p hv) hd k
          | fx=>exact .DR (Rd.p hv) hd k
          | _=>cases hg
        cases gd with
        | none=>
          simp only at h
          cases hg:zy g with
          | false=>rw [hg] at h; cases h
          | true=>
            rw [hg,cond_true] at h
            cases hv:ML T.tt Γ op with
            | none=>rw [hv] at h; cases h
            | some v=>
              rw [hv] at h
              obtain ⟨Γ2,t2,h3,h4⟩:=bL (n:=n) h
              exact ⟨Γ2,t2,h3,fun k=>hp hg hv (h4 k)⟩
        | some jb=>
          obtain ⟨j,b⟩:=jb
          simp only at h
          cases hj:VT ops j with
          | none=>rw [hj] at h; cases h
          | some dj=>
            rw [hj] at h
            simp only at h
            cases hgt:get Γ dj with
            | none=>rw [hgt] at h; cases h
            | some v=>
              rw [hgt] at h
              simp only at h
              cases hn:dD v b with
              | true=>
                rw [hn,cond_true] at h
                obtain ⟨Γ2,t2,h3,h4⟩:=bL (n:=n) h
                exact ⟨Γ2,t2,h3,fun k=>.zh hd hj hgt hn (h4 k)⟩
              | false=>
                rw [hn,cond_false] at h
                have hb:v= .bool b:=by
                  cases v <;> simp [dD] at hn
                  rw [hn]
                cases hg:zy g with
                | false=>rw [hg] at h; cases h
                | true=>
                  rw [hg,cond_true] at h
                  cases hv:ML T.tt Γ op with
                  | none=>rw [hv] at h; cases h
                  | some u=>
                    rw [hv] at h
                    obtain ⟨Γ2,t2,h3,h4⟩:=bL (n:=n) h
                    exact ⟨Γ2,t2,h3,fun k=>.LV hj (hb▸hgt) (hp hg hv (h4 k))⟩
theorem St.yn (n:Nat) {t t':Tr} {Qn:Act→World→Prop} (e:ni T.tt ops nt n Γ t (fun Γ t=>some (Γ,t))=some (Γ',t')) (k:St w0 nt Γ' F (FZ P ops C Qn t')):St w0 nt Γ F (FZ P ops C Qn t):=by
 obtain ⟨Γ1,t1,h1,h2⟩:=bL (P:=P) (w0:=w0) (F:=F) (ops:=ops) (C:=C) (Qn:=Qn) e
 cases h1
 exact h2 k
end
def YH (A:Option Addr) (c lo sz:Nat):Option Addr:=if c=lo then A else A.map (·.add (lo*sz))
def YI (AE:Option Addr) (cc:Nat) (A:Option Addr) (c lo sz:Nat):Prop:=cc=c - lo∧(lo<c→AE=A.map (·.add (lo*sz)))
theorem Aa {A:Option Addr} {c lo sz:Nat}:YI (YH A c lo sz) (c - lo) A c lo sz:=⟨O,fun h=>by
 unfold YH
 rw [if_neg (by omega)]⟩
theorem add_add (a:Addr) (i j:Nat):(a.add i).add j=a.add (i+j):=by
 unfold Addr.add
 by_cases hi:i=0
 ·subst hi
  simp
 ·by_cases hj:j=0
  ·subst hj; simp
  ·simp [hi,hj,Nat.add_assoc]
def jP (n:Nat) (lo hi:Int):Option Nat:=if 0≤lo∧lo≤hi∧hi≤n then some (hi.toNat - lo.toNat) else none
def XC {α:Type} (xs:List α) (lo n:Nat) (i:Int):Option α:=if 0≤i∧i<n then AU xs ((lo:Int)+i) else none
theorem zUc {n m:Nat} {lo hi:Int} (h:jP n lo hi=some m):0≤lo∧lo≤hi∧hi≤n∧m=hi.toNat - lo.toNat:=by
 unfold jP at h
 split at h
 ·rename_i hh
  injection h with h
  exact ⟨hh.1,hh.2.1,hh.2.2,h.symm⟩
 ·cases h
theorem Ri {α:Type} {xs:List α} {lo n:Nat} {i:Int} {y:α} (h:XC xs lo n i=some y):AU xs ((lo:Int)+i)=some y:=by
 unfold XC at h
 split at h
 ·exact h
 ·cases h
theorem zTS {α:Type} {xs:List α} {lo n:Nat} {i:Int} {y:α} (h:XC xs lo n i=some y):0≤i∧i<n:=by
 unfold XC at h
 split at h
 ·rename_i hh; exact hh
 ·cases h
def ZY {α:Type} (o:Option α) (A:Value→List As→Prop) (B:α→Value→List As→Prop):Value→List As→Prop:=match o with | none=>A | some x=>B x
theorem YJ {α:Type} {o:Option α} {A:Value→List As→Prop} {B:α→Value→List As→Prop} {v:Value} {F:List As} (h:o=none) (hp:ZY o A B v F):A v F:=by subst h; exact hp
theorem eU {α:Type} {o:Option α} {x:α} {A:Value→List As→Prop} {B:α→Value→List As→Prop} {v:Value} {F:List As} (h:o=some x) (hp:ZY o A B v F):B x v F:=by subst h; exact hp
theorem cL {α:Type} {A:Value→List As→Prop} {B:α→Value→List As→Prop} {v:Value} {F:List As} (hp:A v F):ZY none A B v F:=hp
theorem Rj {α:Type} {x:α} {A:Value→List As→Prop} {B:α→Value→List As→Prop} {v:Value} {F:List As} (hp:B x v F):ZY (some x) A B v F:=hp
def SA {α β:Type} (o:Option α) (a:Option β) (f:α→Option β):Option β:=match o with | none=>a | some x=>f x
theorem eZ {α β:Type} {o:Option α} {a:Option β} {f:α→Option β} {r:β} (h:o=none) (k:SA o a f=some r):a=some r:=by subst h; exact k
theorem eN {α β:Type} {o:Option α} {x:α} {a:Option β} {f:α→Option β} {r:β} (h:o=some x) (k:SA o a f=some r):f x=some r:=by subst h; exact k
section
variable {P:Program} [T:ET P] {w0:World} {nt:Nat} {Γ Γ':Env} {F F' G R:List As} {Q:Exit→Act→World→Prop} {ops:Array Oper} {rest:List Oper}
variable {d:Nat} {op:Op} {ty:Nat} {pos:String} {af:Array Edge} {X:List Oper→Act→World→Prop} {Post:Value→List As→Prop}
theorem St.part [W:Walk P ops X] {α:Type} {E:Enc α} {t e e':Nat} {i j:TI} {A:Option Addr} {n c m:Nat} {xs:List α} {lo hi:Option Operand} {l h:Int} {ox:Operand} (hz:jP xs.length l h=some m) (hd:Nat.blt d nt=true) (hx:ev Γ ox=some (.slice A n c)) (hm:As.res (zD E e' A c xs)∈F) (hlen:n=xs.length)
    (hl:rC Γ 0 lo=some l) (hh:rC Γ (n:Int) hi=some h) (hi':zY T.tt t=some i) (hdesc:i.desc= .slice e) (hj:zY T.tt e=some j) (hn:j.size=E.sz)
    (k:St w0 nt ((d, .slice (YH A c l.toNat E.sz) m (c - l.toNat))::Γ) F (X rest)):St w0 nt Γ F (X (⟨some d, .slice t ox lo hi none,ty,pos,af,none⟩::rest)):=
  fun a w hs hdf ha hf hw=>by
    obtain ⟨h0,h1,h2,rfl⟩:=zUc hz
    have hown:lK E.sz e' A xs.length c (xs.map E.enc) (hp w):=hf.res hm
    have hcap:xs.length≤c:=by
      rcases hown.2.2 with ⟨_,_⟩ | ⟨_,_,_,_,_,_,_,hh,_⟩ <;> omega
    subst hlen
    refine St.val (F:=F) hd (v:=.slice (YH A c l.toNat E.sz) (h.toNat - l.toNat) (c - l.toNat)) (fun a w' ha _=>?_) k a w hs hdf ha hf hw
    obtain ⟨dd,hu,hdd⟩:=T.ok.desc hi'
    have hb:=gX (P:=P) true ha hl hh h0 h1 h2 hcap w'
    simp [execOp,Instr.sliceAt,Instr.slice,ha.eval hx,run_underlying hu,TD.of_slice (hdd.trans hdesc),hb,yB T.ok hj,hn,YH]
theorem St.Ac [W:Walk P ops X] {α:Type} {E:Enc α} {t e e':Nat} {i j:TI} {x ix:Operand} {A AE:Option Addr} {n c cc lo:Nat} {kk:IntKind} {q:Int} {xs:List α} {y:α} (hp:YI AE cc A c lo E.sz) (hy:XC xs lo n q=some y) (hd:Nat.blt d nt=true) (hx:ev Γ x=some (.slice AE n cc)) (hq:ev Γ ix=some (.int kk q))
    (hm:As.res (zD E e' A c xs)∈F) (hi:zY T.tt t=some i) (hdesc:i.desc= .slice e) (hj:zY T.tt e=some j) (hn:j.size=E.sz)
    (k:∀ g,A=some ⟨g,0,none⟩→St w0 nt ((d, .pointer (some ⟨g,((lo:Int)+q).toNat*E.sz,none⟩))::Γ) F (X rest)):St w0 nt Γ F (X (⟨some d, .indexAddr t x ix,ty,pos,af,none⟩::rest)):=
  fun a w hs hdf ha hf hw=>by
    obtain ⟨h0,h1⟩:=zTS hy
    obtain ⟨_,h3,_⟩:=vG (Ri hy)
    have hown:lK E.sz e' A xs.length c (xs.map E.enc) (Go.Proofs.YtccooahdinmfmaaGreatDoor.hp w):=hf.res hm
    rcases hown.2.2 with ⟨h,_⟩ | ⟨g,cur,fr,hc,hA,_,_,hle,_⟩
    · omega
    · subst hA
      obtain ⟨dd,hu,hdd⟩:=T.ok.desc hi
      have hpa:AE=some ⟨g,lo*E.sz,none⟩:=by
        rw [hp.2 (by omega)]
        exact congrArg some (tC g _)
      rw [hpa] at hx
      have hadd:(⟨g,lo*E.sz,none⟩:Addr).add (q.toNat*E.sz)=⟨g,((lo:Int)+q).toNat*E.sz,none⟩:=by
        have e1:((lo:Int)+q).toNat=lo+q.toNat:=by omega
        rw [e1,Nat.add_mul]
        unfold Addr.add
        split
        · rename_i hz; rw [hz]; rfl
        · rfl
      refine W.val _ _ _ _ _ (yT O _) (fun w' he=>?_) (k g O _ w (by simp [Act.put,hs]) hdf (ha.put (hs▸Nat.le_of_ble_eq_true hd)) hf hw)
      simp [execOp,Instr.indexAt,ha.eval hx,ha.eval hq,asIntOf,run_underlying hu,TD.of_slice (hdd.trans hdesc),yB T.ok hj,hn,h0,h1,hadd]
theorem zSj {α:Type} {E:FH α} {A AE:Option Addr} {c cc lo n:Nat} {xs ys:List α} {m:Hp} (hp:YI AE cc A c lo E.n) (h:IL E A c xs m) (hz:sub xs (lo:Int) ((lo+n:Nat):Int)=some ys) (hn:n≠0):IL E AE cc ys m:=by
 have h1:=IL.sub h hz
 obtain ⟨_,_,h2,_⟩:=vg hz
 have hlt:lo<c:=by have:=h.1; omega
 obtain ⟨rfl,h3⟩:=hp
 rw [h3 hlt]
 rw [if_neg (by omega)] at h1
 exact h1
theorem Z7 {α:Type} {E:Enc α} {A AE:Option Addr} {c cc lo n e:Nat} {xs ys:List α} {w:World} (hp:YI AE cc A c lo E.sz) (hz:sub xs (lo:Int) ((lo+n:Nat):Int)=some ys) (hm:As.res (zD E e A c xs)∈F) (hw:Sat F w):IL (DC E) AE cc ys (Go.Proofs.YtccooahdinmfmaaGreatDoor.hp w):=by
 have h:IL (DC E) A c xs (Go.Proofs.YtccooahdinmfmaaGreatDoor.hp w):=zD.sl hw hm
 by_cases hn:n=0
 ·subst hn
  have:ys= []:=by have:=vk hz; simpa using this
  subst this
  refine ⟨Nat.zero_le _,?_,fun _=>O,fun ad _ j x hx=>by simp at hx⟩
  have:=h.2.1
  obtain ⟨rfl,_⟩:=hp
  omega
 ·exact zSj hp h hz hn
theorem bQ.part {α:Type} {E:Enc α} {e c cc lo n:Nat} {A AE:Option Addr} {xs ys:List α} (hp:YI AE cc A c lo E.sz) (hz:sub xs (lo:Int) ((lo+n:Nat):Int)=some ys) (hm:As.res (zD E e A c xs)∈F) (h:bQ G F):bQ (.ro (BP E AE cc ys)::G) F:=fun w hw r' hr=>by
 cases hr with
 | head=>exact Z7 hp hz hm hw
 | tail _ hr=>exact h w hw r' hr
theorem zQJ {α:Type} {xs ys:List α} {lo n c:Nat} {A:Option Addr} (hz:sub xs (lo:Int) ((lo+n:Nat):Int)=some ys):some (Value.slice A n c)=some (Value.slice A ys.length c):=by
 have:=vk hz
 have e:n=ys.length:=by omega
 rw [e]
end
def eA {α:Type} (xs:List α) (lo n:Nat) (ys:List α):Option (List α):=if lo+n≤xs.length then some (xs.take lo++ys.take n++xs.drop (lo+min ys.length n)) else none
theorem Z8 {α:Type} {xs ys zs:List α} {lo n:Nat} (h:eA xs lo n ys=some zs):lo+n≤xs.length∧zs=xs.take lo++ys.take (min ys.length n)++xs.drop (lo+min ys.length n):=by
 unfold eA at h
 split at h
 ·rename_i hh
  injection h with h
  refine ⟨hh,?_⟩
  rw [←h]
  congr 2
  rcases Nat.le_total ys.length n with h1 | h1
  ·rw [Nat.min_eq_left h1,List.take_of_length_le h1,List.take_of_length_le (Nat.le_refl _)]
  ·rw [Nat.min_eq_right h1]
 ·cases h
theorem zOU {α:Type} {xs ys zs:List α} {lo n:Nat} (h:eA xs lo n ys=some zs):zs.length=xs.length:=by
 obtain ⟨h1,rfl⟩:=Z8 h
 simp only [List.length_append,List.length_take,List.length_drop]
 omega
theorem Rk {α:Type} {xs ys zs:List α} {lo n:Nat} {A:Option Addr} {c:Nat} (h:eA xs lo n ys=some zs):some (Value.slice A xs.length c)=some (Value.slice A zs.length c):=by rw [zOU h]
theorem IL.take {α:Type} {E:FH α} {A:Option Addr} {c:Nat} {xs:List α} {m:Hp} (h:IL E A c xs m) (k:Nat):IL E A c (xs.take k) m:=by
 refine ⟨?_,h.2.1,fun hA=>by rw [h.2.2.1 hA]; simp,fun ad hA j x hx=>h.2.2.2 ad hA j x ?_⟩
 ·have:=h.1; simp only [List.length_take]; omega
 ·rw [List.getElem?_take] at hx
  split at hx
  ·exact hx
  ·cases hx
theorem IL.cells {α:Type} {E:Enc α} {A:Option Addr} {c:Nat} {xs:List α} {P:Program} [ET P] {w:World} (h:IL (DC E) A c xs (hp w)):OA P E.sz (.slice A xs.length c) xs.length (xs.map E.enc).flatten w:=by
 obtain ⟨rows,h1,h2,h3⟩:=h.rows
 have:rows=xs.map E.enc:=by
  apply List.ext_getElem (by simp [h1.1])
  intro j hj hj'
  simp only [List.length_map] at hj'
  have e:rows[j]=E.enc xs[j]:=h1.2 j xs[j] rows[j] (List.getElem?_eq_getElem _) (List.getElem?_eq_getElem _)
  simpa using e
 subst this
 exact IL.src (E:=DC E) h2 (by simp) h.2.2.1 h3
theorem IL.first {α:Type} {E:Enc α} {A:Option Addr} {c n:Nat} {xs:List α} {P:Program} [ET P] {w:World} (h:IL (DC E) A c xs (hp w)) (k:Nat) (hk:k≤xs.length):(Builtin.firstCells E.sz k (.slice A n c)).run P w= .ok ((xs.take k).map E.enc).flatten.toArray w:=by
 have h1:=(IL.cells (P:=P) (h.take k)).2.2.2 w O
 have:(xs.take k).length=k:=by simp; omega
 rw [this] at h1
 cases A <;> exact h1
section
variable {P:Program} [T:ET P] {w0:World} {nt:Nat} {Γ Γ':Env} {F F' G R:List As} {Q:Exit→Act→World→Prop} {ops:Array Oper} {rest:List Oper}
variable {d:Nat} {op:Op} {ty:Nat} {pos:String} {af:Array Edge} {X:List Oper→Act→World→Prop} {Post:Value→List As→Prop}
theorem Z9 {α:Type} (E:Enc α):∀ (xs:List α) (k:Nat),(xs.map E.enc).flatten.take (k*E.sz)=((xs.take k).map E.enc).flatten
 | [],k=>by simp
 | x::xs,0=>by simp
 | x::xs,k+1=>by
  have:=Z9 E xs k
  have hl:=E.len x
  simp only [List.map_cons,List.flatten_cons,List.take_succ_cons]
  rw [Nat.add_mul,Nat.one_mul,Nat.add_comm,List.take_append,hl,Nat.add_sub_cancel_left,this,List.take_of_length_le (by omega)]
theorem zJd {α:Type} (E:Enc α):∀ (xs:List α) (k:Nat),(xs.map E.enc).flatten.drop (k*E.sz)=((xs.drop k).map E.enc).flatten
 | [],k=>by simp
 | x::xs,0=>by simp
 | x::xs,k+1=>by
  have:=zJd E xs k
  have hl:=E.len x
  simp only [List.map_cons,List.flatten_cons,List.drop_succ_cons]
  rw [Nat.add_mul,Nat.one_mul,Nat.add_comm,List.drop_append,hl,Nat.add_sub_cancel_left,this,List.drop_eq_nil_of_le (by omega),List.nil_append]
theorem St.YK {α:Type} {E:Enc α} {t t2 e e' lo n c cd m cs:Nat} {i j:TI} {x y:Operand} {A B S:Option Addr} {xs ys zs:List α} (hz:eA xs lo n ys=some zs) (hd:Nat.blt d nt=true) (hx:ev Γ x=some (.slice B n cd)) (hy:ev Γ y=some (.slice S m cs)) (hm:m=ys.length)
    (hB:∀ ad,A=some ad→0<n→lo<c→B=some (ad.add (lo*E.sz))) (hD:Del F (.res (zD E e' A c xs)) G) (hsrc:∀ w,Sat F w→IL (DC E) S cs ys (hp w)) (hi:zY T.tt t=some i) (hdesc:i.desc= .slice e) (hj:zY T.tt e=some j) (hn:j.size=E.sz)
    (k:St w0 nt ((d, .int .i64 ((min ys.length n:Nat):Int))::Γ) (.res (zD E e' A c zs)::G) (wpList P ops Q rest)):
    St w0 nt Γ F (wpList P ops Q (⟨some d, .call { callee:=.builtin .copy,args:=#[x,y],argTypes:=#[t,t2] },ty,pos,af,none⟩::rest)):=
  fun a w hs hdf ha hf hw=>wpList_plain O fun K hK=>by
    obtain ⟨hle,rfl⟩:=Z8 hz
    subst hm
    have hf':=hf.front hD
    have hown:lK E.sz e' A xs.length c (xs.map E.enc) (hp w):=hf.NK hD
    obtain ⟨dd,hu,hdd⟩:=T.ok.desc hi
    have hu':=hu.trans (congrArg some (TD.of_slice (hdd.trans hdesc)))
    have hsz:=yB T.ok hj
    have hfc:=(hsrc w hf).first (P:=P) (n:=ys.length) (min ys.length n) (by omega)
    have hnm:Nat.min ys.length n=min ys.length n:=rfl
    have hbk:∀ g,A=some ⟨g,0,none⟩→0<c→ [g]=(zD E e' A c xs).gs:=fun g hA hc=>by subst hA; exact (aF hc).symm
    have go:∃ w',(execOp a.eval ⟨some d, .call { callee:=.builtin .copy,args:=#[x,y],argTypes:=#[t,t2] },ty,pos,af,none⟩).run P w= .ok (.value (.int .i64 ((min ys.length n:Nat):Int))) w'∧Same w w'∧Sat (.res (zD E e' A c (xs.take lo++ys.take (min ys.length n)++xs.drop (lo+min ys.length n)))::G) w':=by
      by_cases hk0:min ys.length n=0
      · refine ⟨w, ?_, Same.refl w, ?_⟩
        · rw [hk0] at hfc
          cases B with
          | none=>simp [execOp,resolve,invoke,builtin,Builtin.copy_,ha.eval hx,ha.eval hy,run_underlying hu',Builtin.lenOf,hsz,hn,hnm,hk0,hfc,goInt]
          | some b=>simp [execOp,resolve,invoke,builtin,Builtin.copy_,ha.eval hx,ha.eval hy,run_underlying hu',Builtin.lenOf,hsz,hn,hnm,hk0,hfc,goInt,storeCells]
        · rw [hk0]
          simpa using hf'
      · obtain ⟨o1, o2, o3⟩ := hown
        rcases o3 with ⟨h,_⟩ | ⟨g,cur,fr,hpos,hA,hg,hcs,hnc,hc,htk,hfz⟩
        · omega
        have hBs:=hB _ hA (by omega) (by omega)
        rw [tC] at hBs
        subst hBs
        have hbox:(Box g e' cur.toList).p (hp w):=⟨_,hg,fr,by simp,fun i hi=>hfz i (by simpa using hi)⟩
        have hvl:((ys.take (min ys.length n)).map E.enc).flatten.length=min ys.length n*E.sz:=by
          rw [lB]; simp
        have hroom:lo*E.sz+min ys.length n*E.sz≤xs.length*E.sz:=by
          rw [←Nat.add_mul]; exact Nat.mul_le_mul_right _ (by omega)
        have Rl:xs.length*E.sz≤c*E.sz:=Nat.mul_le_mul_right _ hnc
        obtain ⟨w',hrr,hwr,hb⟩:=lY (P:=P) ((ys.take (min ys.length n)).map E.enc).flatten cur.toList (lo*E.sz) 0 w hbox (by simp only [Array.length_toList,hcs,hvl]; omega) (Y2 E _)
        have hbk:=hbk g hA hpos
        have Ad:=hrr
        rw [List.map_take] at Ad
        refine ⟨w',?_,hwr.toSame,hf'.exchange (hbk▸hwr) (pJ _ _) (fun j hj=>?_) ?_⟩
        · simp [execOp,resolve,invoke,builtin,Builtin.copy_,ha.eval hx,ha.eval hy,run_underlying hu',Builtin.lenOf,hsz,hn,hnm,hfc,goInt,Ad]
        · exact ⟨Nat.lt_of_lt_of_le (hf'.lt (by simp only [zN,As.gs,List.mem_append]; exact .inl hj)) hwr.size, .inl hj⟩
        · have hlen : (xs.take lo ++ ys.take (min ys.length n) ++ xs.drop (lo + min ys.length n)).length = xs.length := by
            simp only [List.length_append,List.length_take,List.length_drop]; omega
          obtain ⟨o,ho,fr',rfl,hfz'⟩:=hb
          refine ⟨by simp,Gv E.len E.one _, .inr ⟨g,_,fr',hpos,hA,ho,?_,by omega,hc,?_,fun i hi=>hfz' i (by simpa using hi)⟩⟩
          · simp only [List.size_toArray, List.length_append, List.length_take, List.length_drop, Array.length_toList, hcs, hvl]
            omega
          · rw [hlen]
            have hcur:cur.toList.take (xs.length*E.sz)=(xs.map E.enc).flatten:=htk
            have hcl:cur.toList.length=c*E.sz:=by simp [hcs]
            simp only [List.map_append,List.flatten_append,Nat.add_zero]
            rw [←Z9 E xs lo,←zJd E xs,←hcur,hvl,Nat.add_mul]
            generalize hvs:((ys.take (min ys.length n)).map E.enc).flatten=vs at hvl ⊢
            generalize hP:lo*E.sz=p at*
            generalize hKK:min ys.length n*E.sz=q at*
            generalize hX:xs.length*E.sz=X at*
            apply List.ext_getElem?
            intro z
            simp only [List.getElem?_take,List.getElem?_append,List.length_append,List.length_take,List.length_drop,List.getElem?_drop,hcl,hvl]
            have e1:min p (c*E.sz)=p:=by omega
            have e2:min p (min X (c*E.sz))=p:=by omega
            rw [e1,e2]
            by_cases c1:z<p
            · simp only [c1,show z<X by omega,show z<p+q by omega,if_true]
            · by_cases c2 : z < p + q
              · simp only [c1,c2,show z<X by omega,if_true,if_false]
              · by_cases c3 : z < X
                · simp only [c1, c2, c3, if_true, if_false]
                  rw [if_pos (by omega)]
                · simp only [c1, c2, c3, if_false]
                  rw [if_neg (by omega)]
    obtain ⟨w',hrun,hsame,IW⟩:=go
    unfold Oper.wp
    rw [hrun]
    exact hK _ _ (k _ _ (by simp [Act.put,hs]) hdf (ha.put (hs▸Nat.le_of_ble_eq_true hd)) IW (hw.trans hsame))
theorem zMX {A:Option Addr} {n c sz:Nat} (h0:∀ ad,A=some ad→ad.add 0=ad):∀ ad,A=some ad→0<n→0<c→A=some (ad.add (0*sz)):=fun ad hA _ _=>by rw [Nat.zero_mul,h0 ad hA]; exact hA
theorem zQm {A AE:Option Addr} {n c cc lo sz:Nat} (hp:YI AE cc A c lo sz):∀ ad,A=some ad→0<n→lo<c→AE=some (ad.add (lo*sz)):=fun ad hA _ hlt=>by
 rw [hp.2 hlt,hA]
 rfl
theorem St.Ae {α:Type} {E:Enc α} {t t2 e e' n c m cs:Nat} {i j:TI} {x y:Operand} {A S:Option Addr} {xs ys zs:List α} (hz:eA xs 0 xs.length ys=some zs) (hd:Nat.blt d nt=true) (hx:ev Γ x=some (.slice A n c)) (hy:ev Γ y=some (.slice S m cs)) (hm:m=ys.length) (hnx:n=xs.length)
  (hD:Del F (.res (zD E e' A c xs)) G) (hsrc:∀ w,Sat F w→IL (DC E) S cs ys (hp w)) (hi:zY T.tt t=some i) (hdesc:i.desc= .slice e) (hj:zY T.tt e=some j) (hn:j.size=E.sz)
  (k:St w0 nt ((d, .int .i64 ((min ys.length xs.length:Nat):Int))::Γ) (.res (zD E e' A c zs)::G) (wpList P ops Q rest)):
  St w0 nt Γ F (wpList P ops Q (⟨some d, .call { callee:=.builtin .copy,args:=#[x,y],argTypes:=#[t,t2] },ty,pos,af,none⟩::rest)):=by
 subst hnx
 refine St.YK hz hd hx hy hm (zMX fun ad hA=>?_) hD hsrc hi hdesc hj hn k
 unfold Addr.add
 simp
theorem St.Af {α:Type} {E:Enc α} {t t2 e e' lo n c cc m cs:Nat} {i j:TI} {x y:Operand} {A AE S:Option Addr} {xs ys zs:List α} (hp:YI AE cc A c lo E.sz) (hz:eA xs lo n ys=some zs) (hd:Nat.blt d nt=true) (hx:ev Γ x=some (.slice AE n cc)) (hy:ev Γ y=some (.slice S m cs)) (hm:m=ys.length)
  (hD:Del F (.res (zD E e' A c xs)) G) (hsrc:∀ w,Sat F w→IL (DC E) S cs ys (Go.Proofs.YtccooahdinmfmaaGreatDoor.hp w)) (hi:zY T.tt t=some i) (hdesc:i.desc= .slice e) (hj:zY T.tt e=some j) (hn:j.size=E.sz)
  (k:St w0 nt ((d, .int .i64 ((min ys.length n:Nat):Int))::Γ) (.res (zD E e' A c zs)::G) (wpList P ops Q rest)):
  St w0 nt Γ F (wpList P ops Q (⟨some d, .call { callee:=.builtin .copy,args:=#[x,y],argTypes:=#[t,t2] },ty,pos,af,none⟩::rest)):=
 St.YK hz hd hx hy hm (zQm hp) hD hsrc hi hdesc hj hn k
theorem zUI {α:Type} {E:Enc α} {A:Option Addr} {c:Nat} {ys:List α} (hm:As.ro (BP E A c ys)∈F):∀ w,Sat F w→IL (DC E) A c ys (hp w):=fun w h=>h.KR hm
theorem zQa {α:Type} {E:Enc α} {A AE:Option Addr} {c cc e lo n:Nat} {xs ys:List α} (hp:YI AE cc A c lo E.sz) (hz:sub xs (lo:Int) ((lo+n:Nat):Int)=some ys) (hm:As.res (zD E e A c xs)∈F):∀ w,Sat F w→IL (DC E) AE cc ys (Go.Proofs.YtccooahdinmfmaaGreatDoor.hp w):=fun w h=>Z7 hp hz hm h
theorem zWQ {α:Type} {xs ys:List α} {lo n:Nat} (hz:sub xs (lo:Int) ((lo+n:Nat):Int)=some ys):n=ys.length:=by have:=vk hz; omega
end
def fnV:Option Nat→Value
 | none=>.nilFunc
 | some f=>.func (.func f) #[] #[]
def Ag (g:Nat) (tab:List (Int × Option Nat)):Ro where
 p m:=∃ tab',(∀ q,uA (xE .i64).eq tab' q=uA (xE .i64).eq tab q)∧(jY (xE .i64) fnV g tab').p m
 mono _ _ h:=fun ⟨tab',hq,es,cl,ho,hb⟩=>⟨tab',hq,es,cl,h _ _ ho,hb⟩
def zYX (g:Nat) (tab:List (Int × Option Nat)):Ro where
 p m:=∃ gm,jN m g 0=some (.map (some gm))∧(Ag gm tab).p m
 mono m m' h:=fun ⟨gm,h1,h2⟩=>⟨gm,bJ h h1,(Ag gm tab).mono _ _ h h2⟩
def TF {α:Type} (b:Nat) (z:α) (l c:Int):Option (List α):=if 0≤l∧l≤c∧c*b≤281474976710656∧c≤9223372036854775807 then some (List.replicate l.toNat z) else none
def Ah {α:Type}:(ls:List (LC α))→JW ls
 | []=>()
 | .v _ _::r=>Ah r
 | .s _ _::r=>((none,0),Ah r)
def ny {α:Type} (z:α):List (LC α)→Bool
 | []=>true
 | .v _ _::r=>ny z r
 | .s _ f::r=>(f z).isEmpty&&ny z r
theorem Rn {α:Type} {z:α} {m:Hp}:∀ {ls:List (LC α)},ny z ls=true→VZ m z ls (rM z ls (Ah ls))
 | [],_=>trivial
 | .v _ _::ls,h=>⟨O,Rn (ls:=ls) h⟩
 | .s E f::ls,h=>by
  have h':(f z).isEmpty=true∧ny z ls=true:=by simpa [ny] using h
  have hf:f z= []:=List.isEmpty_iff.1 h'.1
  exact ⟨⟨none,0,O,by rw [hf]; exact Nat.zero_le _,Nat.zero_le _,fun _=>hf,fun ad h=>by cases h⟩,Rn (ls:=ls) h'.2⟩
section
variable {P:Program} [T:ET P] {w0:World} {nt:Nat} {Γ Γ':Env} {F F' G R:List As} {Q:Exit→Act→World→Prop} {ops:Array Oper} {rest:List Oper}
variable {d:Nat} {op:Op} {ty:Nat} {pos:String} {af:Array Edge} {X:List Oper→Act→World→Prop} {Post:Value→List As→Prop}
theorem St.BQ {Y:Act→World→Prop} {g:Nat} {tab:List (Int × Option Nat)} (hm:As.ro (zYX g tab)∈F) (k:∀ gm,St w0 nt Γ (.ro (vJ g 0 [.map (some gm)]):: .ro (Ag gm tab)::F) Y):St w0 nt Γ F Y:=
 fun a w hs hdf ha hf hw=>by
  obtain ⟨gm,h1,h2⟩:=hf.ro hm
  have hf1:=hf.EO (Ag gm tab) h2
  refine k gm a w hs hdf ha (hf1.EO (vJ g 0 [.map (some gm)]) ?_) hw
  intro i u hu
  have e:zN (.ro (Ag gm tab)::F)=zN F:=by simp [zN,As.gs]
  rw [e]
  match i,hu with
  | 0,hu=>simp at hu; subst hu; exact h1
  | i+1,hu=>simp at hu
theorem St.TF {α:Type} {ls:List (LC α)} {t e:Nat} {i j:TI} {x y:Operand} {l c:Int} {b:Nat} (z:α) {xs:List α} (hxs:Go.Proofs.YtccooahdinmfmaaGreatDoor.TF b z l c=some xs) (hd:Nat.blt d nt=true) (hx:ev Γ x=some (.int .i64 l)) (hy:ev Γ y=some (.int .i64 c)) (hi:zY T.tt t=some i) (hdesc:i.desc= .slice e) (hj:zY T.tt e=some j)
  (hsz:j.size=ls.length) (hby:j.bytes=b) (hz:zc j.zero=rM z ls (Ah ls)) (hn:ny z ls=true) (hpos:Nat.blt 0 j.size=true)
  (k:∀ g,St w0 nt ((d, .slice (some ⟨g,0,none⟩) xs.length c.toNat)::Γ) (.res (uD (yL ls) e (some ⟨g,0,none⟩) c.toNat xs)::F) (wpList P ops Q rest)):
  St w0 nt Γ F (wpList P ops Q (⟨some d, .makeSlice t x y,ty,pos,af,none⟩::rest)):=by
 unfold Go.Proofs.YtccooahdinmfmaaGreatDoor.TF at hxs
 split at hxs
 ·rename_i hc
  injection hxs with hxs
  subst hxs
  subst hby
  refine St.makeSlice hd hx hy hi hdesc hj (by rw [hz,kZ,hsz]; simp) hpos (by rw [hz,List.all_eq_true]; exact Hg z ls _) hc.1 hc.2.1 hc.2.2.1 hc.2.2.2 fun g=>?_
  refine St.AQ (F':=.res (uD (yL ls) e (some ⟨g,0,none⟩) c.toNat (List.replicate l.toNat z))::F) (fun w hw=>?_) (by have:=k g; rwa [List.length_replicate] at this)
  rw [hsz,hz] at hw
  exact Sat.QY (E:=yL ls) (rows:=List.replicate l.toNat (rM z ls (Ah ls))) (n:=l.toNat) hw (List.length_replicate ..).symm ⟨by simp,fun q x r hx hr=>by
   obtain ⟨_,rfl⟩:=List.getElem?_eq_some_iff.1 hx
   obtain ⟨_,rfl⟩:=List.getElem?_eq_some_iff.1 hr
   rw [List.getElem_replicate,List.getElem_replicate]
   exact Rn hn⟩
 ·cases hxs
end
theorem zQI {P:Program} {ρ:Shelf.Ren} (L:Lays8.n4 P ρ) {i0:TypeInfo} {z:Value} (hi:P.info? (ρ.t 25)=some i0) (hz:i0.zero=some z) (hs:0<i0.size) (hzs:z.cells.size=i0.size) {n:Nat} (hb:n*i0.bytes≤140737488355328) (h63:n≤140737488355328):
  AX P (ρ.f 4) [.slice none 0 0, .int .i64 (n:Int)] [] (fun v F'=>∃ A c,v= .slice A 0 c∧F'= [.res (Own i0.size (ρ.t 25) A 0 c [])]):=by
 intro w R IW
 have hR:Sat R w:=IW
 have hrows:∀ r∈([]:List (List Value)),r.length=i0.size∧∀ u∈r,u.oneCell'=true:=fun r hr=>by cases hr
 by_cases h0:n=0
 ·subst h0
  refine (Any8.slices_Grow_room L none 0 0 0 w (by omega) (by omega) (by omega) (by omega)).mono fun e w' he=>?_
  obtain ⟨rfl,rfl⟩:=he
  refine ⟨_,_,O,⟨none,0,O,O⟩,?_,Same.refl _⟩
  exact hR.FM (Ext.refl _) _ (by simp [Own,oO]) (fun k hk=>by simp [Own,oO] at hk) ⟨O,hrows, .inl ⟨O,O⟩⟩
 ·refine (Any8.slices_Grow_grow L i0 z hi hz hs none 0 0 n [] w (by omega) (by omega) (by rw [Nat.zero_add]; exact hb) (by omega) (by simp) (fun _=>O) (fun a ha=>by cases ha)).mono fun e w' he=>?_
  obtain ⟨rfl,rfl⟩:=he
  have hge:=grownCap_ge w (0+n) 0 (ρ.t 25)
  have hcm:=grownCap_le_maxLen w (0+n) 0 (ρ.t 25) (by unfold maxLen; omega)
  refine ⟨_,_,O,⟨_,_,O,O⟩,?_,((Ext.drew w).trans (Ext.alloc _ _)).toSame⟩
  refine hR.FM ((Ext.drew w).trans (Ext.alloc _ _)) _ (pJ _ _) (fun k hk=>?_) ⟨O,hrows, .inr ⟨w.heap.size,_,(0,0),by omega,O,oU w.drew _,?_,by omega,hcm,?_,fun i _ hh=>by omega⟩⟩
  ·obtain ⟨_,a,ha,hk⟩:=pU.1 hk
   injection ha with ha
   subst ha
   subst hk
   exact ⟨Nat.le_refl _,by simp⟩
  ·rw [Array.size_append,Array.size_append,List.size_toArray,size_zeroCells,size_zeroCells,hzs,List.length_nil,Nat.zero_add,←Nat.add_mul]
   congr 1
   omega
  ·simp
def oh (n:Int):Option (List Int):=if 0≤n∧n≤140737488355328 then some [] else none
theorem zMN {n:Int} {r:List Int} (h:oh n=some r):r= []∧∃ k:Nat,n=(k:Int)∧k≤140737488355328:=by
 unfold oh at h
 split at h
 ·rename_i hn
  injection h with h
  exact ⟨h.symm,n.toNat,by omega,by omega⟩
 ·cases h
section
variable {P:Program} [T:ET P] {w0:World} {nt:Nat} {Γ Γ':Env} {F F' G R:List As} {Q:Exit→Act→World→Prop} {ops:Array Oper} {rest:List Oper}
variable {d:Nat} {op:Op} {ty:Nat} {pos:String} {af:Array Edge} {X:List Oper→Act→World→Prop} {Post:Value→List As→Prop}
theorem St.oq [W:Walk P ops X] {α:Type} {E:Enc α} {t e g len c:Nat} {i j:TI} {x ix:Operand} {kk:IntKind} {q:Int} {ys:List α} {y:α} (hy:AU ys q=some y) (hd:Nat.blt d nt=true) (hx:ev Γ x=some (.pointer (some ⟨g,0,none⟩))) (hq:ev Γ ix=some (.int kk q))
  (hm:As.ro (BP E (some ⟨g,0,none⟩) c ys)∈F) (hlen:len=ys.length) (hi:zY T.tt t=some i) (hdesc:i.desc= .array len e) (hj:zY T.tt e=some j) (hn:j.size=E.sz)
  (k:∀ b o,St w0 nt ((d, .pointer (some ⟨b,o,none⟩))::Γ) (.ro (vJ b o (E.enc y))::F) (X rest)):St w0 nt Γ F (X (⟨some d, .indexAddr t x ix,ty,pos,af,none⟩::rest)):=
 St.Gw hy hd hx hq hlen hi hdesc hj hn (St.AQ (fun _ w=>Sat.EP ⟨0,O,(Nat.zero_add _).symm⟩ hm hy w) (k g _))
theorem Rd.oq {α:Type} {E:Enc α} {t e g len:Nat} {i j:TI} {x ix:Operand} {kk:IntKind} {q:Int} {xs:List α} {y:α} {b o:Nat} (hA:∃ oA,(some ⟨g,0,none⟩:Option Addr)=some ⟨b,oA,none⟩∧o=oA+q.toNat*E.sz) (hy:AU xs q=some y) (hx:ev Γ x=some (.pointer (some ⟨g,0,none⟩))) (hq:ev Γ ix=some (.int kk q))
    (hlen:len=xs.length) (hi:zY T.tt t=some i) (hdesc:i.desc= .array len e) (hj:zY T.tt e=some j) (hn:j.size=E.sz):Rd P F Γ (.indexAddr t x ix) (.pointer (some ⟨b,o,none⟩)):=
  fun a w d ty pos af gg ha hf=>by
    obtain ⟨oA,h1,rfl⟩:=hA
    injection h1 with h1
    injection h1 with h1 h2
    subst h1; subst h2; subst hlen
    have hv:mU T.tt t (.pointer (some ⟨g,0,none⟩)) (.int kk q)=some (.pointer (some ⟨g,0+q.toNat*E.sz,none⟩)):=by
      obtain ⟨h0,h1,_⟩:=vG hy
      have:ZK ⟨g,0,none⟩ (q.toNat*j.size)=⟨g,q.toNat*E.sz,none⟩:=by
        unfold ZK
        split <;> simp_all
      simp [mU,hi,hdesc,hj,h0,h1,this]
    simp [execOp,ha.eval hx,ha.eval hq,gO T.ok hv]
end
def zUd:Shelf.Ren:=⟨fun x=>if x=4 then 116 else x,fun x=>if x=22 then 29 else if x=25 then 5 else x,fun x=>x⟩
theorem zRs:Lays8.n4 Tryz.prog zUd where
 mixed:=by kernel_rfl
 f4:=⟨Tryz.f116.name,by kernel_rfl,by kernel_rfl⟩
 t0:=by kernel_rfl
 a0:=fun _=>O
 z0:=fun _=>O
 v0:=fun _=>O
 t3:=by kernel_rfl
 a3:=fun _=>O
 z3:=fun _=>O
 v3:=fun _=>O
 t4:=by kernel_rfl
 a4:=fun _=>O
 z4:=fun _=>O
 v4:=fun _=>O
 t9:=by kernel_rfl
 a9:=fun _=>O
 z9:=fun _=>O
 v9:=fun _=>O
 t20:=by kernel_rfl
 a20:=fun _=>O
 z20:=fun _=>O
 v20:=fun _=>O
 t22:=by kernel_rfl
 a22:=fun _=>O
 z22:=fun _=>O
 v22:=fun _=>O
theorem zQh:∃ i0,Tryz.prog.info? 5=some i0∧i0.zero=some (.int .u8 0)∧i0.size=1∧i0.bytes=1:=by
 have h:(Tryz.prog.info? 5).map (fun i=>(i.zero,i.size,i.bytes))=some (some (.int .u8 0),1,1):=by kernel_rfl
 cases hi:Tryz.prog.info? 5 with
 | none=>rw [hi] at h; cases h
 | some i=>
  rw [hi] at h
  simp only [Option.map_some,Option.some.injEq,Prod.mk.injEq] at h
  exact ⟨i,O,h.1,h.2.1,h.2.2⟩
theorem zXG {n:Int} {r:List Int} (h:oh n=some r):
  AX Tryz.prog 116 [.slice none 0 0, .int .i64 n] [] (fun v F'=>∃ A c,v= .slice A r.length c∧F'= [.res (zD AP 5 A c r)]):=by
 obtain ⟨rfl,k,rfl,hk⟩:=zMN h
 obtain ⟨i0,h1,h2,h3,h4⟩:=zQh
 have:=zQI (n:=k) zRs h1 h2 (by omega) (by rw [h3]; rfl) (by rw [h4]; omega) hk
 rw [h3] at this
 exact this
section
variable {P:Program} [T:ET P] {w0:World} {nt:Nat} {Γ Γ':Env} {F F' G R:List As} {Q:Exit→Act→World→Prop} {ops:Array Oper} {rest:List Oper}
variable {d:Nat} {op:Op} {ty:Nat} {pos:String} {af:Array Edge}
theorem tT {α:Type} {xs ys zs:List α} {A:Option Addr} {c:Nat} (h:yV xs.length ys=some zs):some (Value.slice A xs.length c)=some (Value.slice A ys.length c):=by rw [Qs h]
end
def XD (b:Bool) (g:Nat):Option Addr:=bif b then some ⟨g,0,none⟩ else none
def iZ (b:Bool):Option Bool:=bif b then some true else none
theorem zXi {b x:Bool} (h:iZ b=some x):b=true:=by
 cases b
 ·cases h
 ·rfl
theorem zWA {b:Bool} {g:Nat} (h:b=true):XD b g=some ⟨g,0,none⟩:=by subst h; rfl
theorem rX {b x:Bool} {g:Nat} (h:iZ b=some x):some (Value.pointer (XD b g))=some (Value.pointer (some ⟨g,0,none⟩)):=by rw [zWA (zXi h)]
theorem IL.none0 {α:Type} {E:FH α} (m:Hp):IL E none 0 [] m:=⟨Nat.le_refl _,by simp [maxLen],fun _=>O,fun ad h=>by cases h⟩
def SB {α β:Type} (eq:α→α→Bool):List (α × β)→α→List (α × β)
 | [],_=> []
 | x::r,k=>bif eq k x.1 then r else x::SB eq r k
def qD {α β:Type} (K:pQ α) (E:FH β) (z:Hp):List (α × List β)→List MapEntry→Prop
 | [], []=>True
 | x::m,e::es=>e.key=K.v x.1∧(∃ A c,e.val= .slice A x.2.length c∧IL E A c x.2 z)∧qD K E z m es
 | _,_=>False
theorem qD.mono {α β:Type} {K:pQ α} {E:FH β} {z z':Hp} (hz:Hp.le z z'):∀ {m:List (α × List β)} {es:List MapEntry},qD K E z m es→qD K E z' m es
 | [], [],_=>trivial
 | x::m,e::es,h=>by
  obtain ⟨h1,⟨A,c,h2,h3⟩,h4⟩:=h
  exact ⟨h1,⟨A,c,h2,(Sl E A c x.2).mono _ _ hz h3⟩,qD.mono hz h4⟩
 | [],_::_,h=>h.elim
 | _::_, [],h=>h.elim
theorem qD.len {α β:Type} {K:pQ α} {E:FH β} {z:Hp}:∀ {m:List (α × List β)} {es:List MapEntry},qD K E z m es→es.length=m.length
 | [], [],_=>rfl
 | _::_,_::_,h=>by simp [qD.len h.2.2]
 | [],_::_,h=>h.elim
 | _::_, [],h=>h.elim
theorem qD.snoc {α β:Type} {K:pQ α} {E:FH β} {z:Hp} {k:α} {v:List β} {e:MapEntry} (hk:e.key=K.v k) (hv:∃ A c,e.val= .slice A v.length c∧IL E A c v z):∀ {m:List (α × List β)} {es:List MapEntry},qD K E z m es→qD K E z (m++ [(k,v)]) (es++ [e])
 | [], [],_=>⟨hk,hv,trivial⟩
 | _::_,_::_,h=>⟨h.1,h.2.1,qD.snoc hk hv h.2.2⟩
 | [],_::_,h=>h.elim
 | _::_, [],h=>h.elim
def OC (es:List MapEntry) (cl:Nat):Prop:=(∀ x∈es,x.born<cl)∧(es.map (·.born)).Nodup
theorem OC.nil (cl:Nat):OC [] cl:=⟨(fun x h=>by cases h),List.nodup_nil⟩
theorem OC.push {es:List MapEntry} {cl:Nat} (h:OC es cl) (k v:Value):OC (es++ [⟨k,v,cl⟩]) (cl+1):=by
 refine ⟨fun x hx=>?_,?_⟩
 ·rcases List.mem_append.1 hx with hx | hx
  ·have:=h.1 x hx; omega
  ·rw [List.mem_singleton] at hx; subst hx; exact Nat.lt_succ_self _
 ·rw [List.map_append]
  refine List.nodup_append.2 ⟨h.2,by simp,fun a ha b hb=>?_⟩
  obtain ⟨x,hx,rfl⟩:=List.mem_map.1 ha
  have:=h.1 x hx
  simp only [List.map_cons,List.map_nil,List.mem_singleton] at hb
  omega
theorem OC.modify {f:MapEntry→MapEntry} (hb:∀ e,(f e).born=e.born):∀ {es:List MapEntry} {cl:Nat} (i:Nat),OC es cl→OC (es.modify i f) cl:=fun {es cl} i h=>by
 have e:∀ (l:List MapEntry) (i:Nat),(l.modify i f).map (·.born)=l.map (·.born):=fun l=>by
  induction l with
  | nil=>intro i; cases i <;> rfl
  | cons x r ih=>
   intro i
   cases i with
   | zero=>simp [hb]
   | succ i=>simp [ih]
 refine ⟨fun x hx=>?_,by rw [e]; exact h.2⟩
 have:x.born∈(es.modify i f).map (·.born):=List.mem_map_of_mem hx
 rw [e] at this
 obtain ⟨y,hy,hyb⟩:=List.mem_map.1 this
 rw [←hyb]
 exact h.1 y hy
theorem OC.erase {es:List MapEntry} {cl:Nat} (h:OC es cl) (i:Nat):OC (es.eraseIdx i) cl:=
 ⟨fun x hx=>h.1 x ((List.eraseIdx_sublist es i).mem hx),List.Nodup.sublist ((List.eraseIdx_sublist es i).map _) h.2⟩
def yZ {α β:Type} (K:pQ α) (E:FH β) (A:Option Nat) (m:Option (List (α × List β))):OY where
 gs:=A.toList
 p _:=True
 loc _ _ _ h:=h
 q h z:=match A,m with
  | none,none=>True
  | some g,some m=>∃ es clock,h g=some (.map es clock)∧qD K E z m es.toList∧OC es.toList clock
  | _,_=>False
 OG m m' z z' hm hz h:=by
  rename_i mm
  cases A with
  | none=>
   cases mm with
   | none=>exact h
   | some x=>exact h
  | some g=>
   cases mm with
   | none=>exact h
   | some x=>
    obtain ⟨es,cl,h1,h2,h3⟩:=h
    exact ⟨es,cl,(hm g (by simp)).symm.trans h1,h2.mono hz,h3⟩
theorem yZ.get {α β:Type} {K:pQ α} {E:FH β} {A:Option Nat} {m:Option (List (α × List β))} {h z:Hp} (hq:(yZ K E A m).q h z):
  (A=none∧m=none)∨∃ g l es cl,A=some g∧m=some l∧h g=some (.map es cl)∧qD K E z l es.toList:=by
 cases A with
 | none=>
  cases m with
  | none=>exact .inl ⟨O,O⟩
  | some x=>exact False.elim hq
 | some g=>
  cases m with
  | none=>exact False.elim hq
  | some x=>
   obtain ⟨es,cl,h1,h2,_⟩:=hq
   exact .inr ⟨g,x,es,cl,O,O,h1,h2⟩
theorem yZ.Ib {α β:Type} {K:pQ α} {E:FH β} {g:Nat} {m:Option (List (α × List β))} {es:Array MapEntry} {cl:Nat} {h z:Hp} (hq:(yZ K E (some g) m).q h z) (ho:h g=some (.map es cl)):OC es.toList cl:=by
 cases m with
 | none=>exact False.elim hq
 | some x=>
  obtain ⟨es',cl',h1,_,h3⟩:=hq
  rw [ho] at h1
  injection h1 with h1
  injection h1 with h4 h5
  subst h4; subst h5
  exact h3
theorem Ic {α β:Type} (K:pQ α) (E:FH β) {d:TypeDesc} (hd:TD.of d=K.td) (k:α) (z:Hp):∀ (m:List (α × List β)) (es:List MapEntry) (n:Nat),qD K E z m es→
  (uA K.eq m k=none∧Instr.findNow d (K.v k) es n=some none∧(∀ v,pG K.eq m k v=m++ [(k,v)])∧SB K.eq m k=m)∨
  ∃ i b e,uA K.eq m k=some b∧Instr.findNow d (K.v k) es n=some (some (n+i,e.val))∧es[i]? =some e∧Instr.sameBits 10000 e.key (K.v k)=true∧(∃ A c,e.val= .slice A b.length c∧IL E A c b z)∧
   (∀ v u,(∃ A c,u= .slice A v.length c∧IL E A c v z)→qD K E z (pG K.eq m k v) (es.modify i fun e=> { e with key:=K.v k,val:=u }))∧qD K E z (SB K.eq m k) (es.eraseIdx i)
 | [], [],n,h=>.inl ⟨O,O,fun _=>rfl,O⟩
 | [],_::_,_,h=>h.elim
 | _::_, [],_,h=>h.elim
 | x::m,e::es,n,h=>by
  obtain ⟨h1,h2,h3⟩:=h
  have hs:=K.same d k x.1 hd
  cases hc:K.eq k x.1
  ·rw [hc] at hs
   rcases Ic K E hd k z m es (n+1) h3 with ⟨g1,g2,g3,g4⟩ | ⟨i,b,e',g1,g2,g3,g4,g5,g6,g7⟩
   ·exact .inl ⟨by simp [uA,hc,g1],by simp [Instr.findNow,h1,hs,g2],fun v=>by simp [pG,hc,g3],by simp [SB,hc,g4]⟩
   ·refine .inr ⟨i+1,b,e',by simp [uA,hc,g1],by simp [Instr.findNow,h1,hs,g2]; omega,by simpa using g3,g4,g5,fun v u hu=>?_,?_⟩
    ·have:=g6 v u hu
     simp only [pG,hc,cond_false,List.modify_succ_cons]
     exact ⟨h1,h2,this⟩
    ·simp only [SB,hc,cond_false,List.eraseIdx_cons_succ]
     exact ⟨h1,h2,g7⟩
  ·rw [hc] at hs
   refine .inr ⟨0,x.2,e,by simp [uA,hc],by simp [Instr.findNow,h1,hs],O,by rw [h1]; exact K.stay _ _ hc,h2,fun v u hu=>?_,?_⟩
   ·simp only [pG,hc,cond_true,List.modify_zero_cons]
    exact ⟨O,hu,h3⟩
   ·simp only [SB,hc,cond_true,List.eraseIdx_cons_zero]
    exact h3
theorem Sat.SC {α β:Type} {F:List As} {w:World} (h:Sat F w) (K:pQ α) (E:FH β):Sat (.res (yZ K E none none)::F) w:=
 h.FM (Ext.refl w) (yZ K E none none) (by simp [yZ]) (fun k hk=>by simp [yZ] at hk) trivial trivial
theorem lX {α:Type} {K:pQ α} {P:Program} {t:Nat} {d:TypeDesc} (e:Bool) (k:α) (w:World) (hu:P.underlying t=some d) (hd:TD.of d=K.td):(Instr.checkKey e 10000 t (K.v k)).run P w= .ok () w:=K.plain P t d e k w hu hd
section
variable {P:Program} [T:ET P] {w0:World} {nt:Nat} {Γ Γ':Env} {F F' G R:List As} {Q:Exit→Act→World→Prop} {ops:Array Oper} {rest:List Oper}
variable {d:Nat} {op:Op} {ty:Nat} {pos:String} {af:Array Edge} {X:List Oper→Act→World→Prop} {Post:Value→List As→Prop}
theorem St.OH {α β:Type} {K:pQ α} {E:FH β} {t:Nat} (hd:Nat.blt d nt=true) (k:∀ g,St w0 nt ((d, .map (some g))::Γ) (.res (yZ K E (some g) (some []))::F) (wpList P ops Q rest)):
    St w0 nt Γ F (wpList P ops Q (⟨some d, .makeMap t none,ty,pos,af,none⟩::rest)):=
  fun a w hs hdf ha hf hw=>wpList_plain O fun K' hK=>by
    unfold Oper.wp
    have hr:(execOp a.eval ⟨some d, .makeMap t none,ty,pos,af,none⟩).run P w= .ok (.value (.map (some w.heap.size))) (w.alloc (.map #[] 0)):=by
      simp [execOp,U4]
    rw [hr]
    refine hK _ _ (k _ _ _ (by simp [Act.put,hs]) hdf (ha.put (hs▸Nat.le_of_ble_eq_true hd)) (hf.FM (Ext.alloc w _) _ (by simp [yZ]) (fun k hk=>by simp [yZ] at hk; subst hk; simp) trivial ⟨_,_,oU w _,trivial,OC.nil _⟩) (hw.trans (Ext.alloc w _).toSame))
theorem St.XE {α β:Type} {K:pQ α} {E:FH β} {t kt e:Nat} {i j l:TI} {A:Option Nat} {m:Option (List (α × List β))} {x y:Operand} {comma:Bool} (k:α) (hd:Nat.blt d nt=true) (hx:ev Γ x=some (.map A)) (hy:ev Γ y=some (K.v k)) (hm:As.res (yZ K E A m)∈F)
    (hi:zY T.tt t=some i) (hdesc:i.desc= .map kt e) (hj:zY T.tt kt=some j) (hjd:j.desc=K.td) (hl:zY T.tt e=some l) (hz:l.zero= .slice none 0 0)
    (c:∀ B c,St w0 nt ((d,if comma then .tuple #[.slice B ((uA K.eq (m.getD []) k).getD []).length c, .bool (uA K.eq (m.getD []) k).isSome] else .slice B ((uA K.eq (m.getD []) k).getD []).length c)::Γ) (.ro (Sl E B c ((uA K.eq (m.getD []) k).getD []))::F) (wpList P ops Q rest)):
    St w0 nt Γ F (wpList P ops Q (⟨some d, .lookup t x y comma,ty,pos,af,none⟩::rest)):=
  fun a w hs hdf ha hf hw=>wpList_plain O fun K' hK=>by
    obtain ⟨d1,hu1,hd1⟩:=T.ok.desc hi
    obtain ⟨d2,hu2,hd2⟩:=T.ok.desc hj
    have h1:=TD.of_map (hd1.trans hdesc)
    subst h1
    have hz0:=uY T.ok hl w
    have go:∃ B c,(execOp a.eval ⟨some d, .lookup t x y comma,ty,pos,af,none⟩).run P w= .ok (.value (if comma then .tuple #[.slice B ((uA K.eq (m.getD []) k).getD []).length c, .bool (uA K.eq (m.getD []) k).isSome] else .slice B ((uA K.eq (m.getD []) k).getD []).length c)) w∧(Sl E B c ((uA K.eq (m.getD []) k).getD [])).p (FW (zN F) w):=by
      rcases yZ.get (hf.JI hm) with ⟨rfl,rfl⟩ | ⟨g,l',es,cl,rfl,rfl,ho,hE⟩
      · have h2 := lX true k w hu2 (hd2.trans hjd)
        refine ⟨none,0,?_,IL.none0 _⟩
        cases comma <;> simp [execOp,ha.eval hx,ha.eval hy,Instr.lookup,run_underlying hu1,h2,Instr.findKey,Instr.findNow,run_underlying hu2,hz0,hz,uA]
      · have ho' : w.heap[g]? = some (.map es cl) := ho
        have hg:(getObj g).run P w= .ok (.map es cl) w:=kP ho'
        have h2:=lX es.isEmpty k w hu2 (hd2.trans hjd)
        rcases Ic K E (hd2.trans hjd) k _ l' es.toList 0 hE with ⟨g1,g2,_⟩ | ⟨i',b,e',g1,g2,_,_,⟨B,c,g3,g4⟩,_⟩
        · refine ⟨none, 0, ?_, by simp only [Option.getD_some, g1, Option.getD_none]; exact IL.none0 _⟩
          cases comma <;> simp [execOp,ha.eval hx,ha.eval hy,Instr.lookup,run_underlying hu1,hg,h2,Instr.findKey,run_underlying hu2,g2,hz0,hz,g1]
        · refine ⟨B, c, ?_, by simp only [Option.getD_some, g1]; exact g4⟩
          cases comma <;> simp [execOp,ha.eval hx,ha.eval hy,Instr.lookup,run_underlying hu1,hg,h2,Instr.findKey,run_underlying hu2,g2,g1,g3]
    obtain ⟨B,cc,hr,hsl⟩:=go
    unfold Oper.wp
    rw [hr]
    exact hK _ _ (c B cc _ w (by simp [Act.put,hs]) hdf (ha.put (hs▸Nat.le_of_ble_eq_true hd)) (hf.EO _ hsl) hw)
theorem Ie {P:Program} {w:World} {g:Nat} {es:Array MapEntry} {cl:Nat} (ho:w.heap[g]? =some (.map es cl)) (o:Obj):∃ w',(setObj g o).run P w= .ok () w'∧sO [g] w w'∧hp w' g=some o:=by
 have hlt:=(Array.getElem?_eq_some_iff.1 ho).1
 refine ⟨{ w with heap:=w.heap.setIfInBounds g o },U3 o ho,⟨⟨O,O,O,by simp⟩,fun i hi hn=>?_⟩,?_⟩
 ·simp only [List.mem_singleton] at hn
  show (w.heap.setIfInBounds g o)[i]? =w.heap[i]?
  rw [Array.getElem?_setIfInBounds_ne (fun h=>hn h.symm)]
 ·show (w.heap.setIfInBounds g o)[g]? =some o
  simp [hlt]
def mapM {α:Type} (m:Option α):Option α:=m
theorem yZ.turn {α β:Type} {K:pQ α} {E:FH β} {g:Nat} {l l':List (α × List β)} {w w':World} {es:Array MapEntry} {cl:Nat} (hf:Sat (.res (yZ K E (some g) (some l))::G) w) (hwr:sO [g] w w') (hh:hp w' g=some (.map es cl))
  (hE:qD K E (FW (zN (.res (yZ K E (some g) (some l))::G)) w) l' es.toList) (hS:OC es.toList cl):Sat (.res (yZ K E (some g) (some l'))::G) w':=by
 have hlt:g<w.heap.size:=hf.lt (by simp [zN,As.gs,yZ])
 refine hf.exchange hwr (by simp [yZ]) (fun k hk=>?_) trivial ?_
 ·simp [yZ] at hk
  subst hk
  exact ⟨Nat.lt_of_lt_of_le hlt hwr.size, .inl (by simp [yZ])⟩
 ·refine ⟨es,cl,hh,hE.mono ?_,hS⟩
  intro k o hk
  unfold FW at*
  split at hk
  ·cases hk
  ·rename_i hn
   have hn':k∉(yZ K E (some g) (some l')).gs++zN G:=by simpa [zN,As.gs,yZ] using hn
   rw [if_neg hn']
   have hkg:k∉ [g]:=by simp [zN,As.gs,yZ] at hn; simp; exact hn.1
   rw [hwr.block k (Array.getElem?_eq_some_iff.1 hk).1 hkg]
   exact hk
theorem St.QC {α β:Type} {K:pQ α} {E:FH β} {t kt e n cc:Nat} {i j:TI} {A B:Option _} {m:Option (List (α × List β))} {l:List (α × List β)} {x y z:Operand} (hl:mapM m=some l) (k:α) {v:List β} (hx:ev Γ x=some (.map A)) (hy:ev Γ y=some (K.v k)) (hz:ev Γ z=some (.slice B n cc)) (hn:n=v.length)
    (hD:Del F (.res (yZ K E A m)) G) (hv:As.ro (Sl E B cc v)∈F)
    (hi:zY T.tt t=some i) (hdesc:i.desc= .map kt e) (hj:zY T.tt kt=some j) (hjd:j.desc=K.td)
    (c:St w0 nt Γ (.res (yZ K E A (some (pG K.eq l k v)))::G) (wpList P ops Q rest)):St w0 nt Γ F (wpList P ops Q (⟨none, .mapUpdate t x y z,ty,pos,af,none⟩::rest)):=
  fun a w hs hdf ha hf hw=>wpList_plain O fun K' hK=>by
    unfold mapM at hl
    subst hl; subst hn
    have hf':=hf.front hD
    have hvz:IL E B cc v (FW (zN (.res (yZ K E A (some l))::G)) w):=hf'.ro (r:=Sl E B cc v) (hD.perm.mem_iff.1 hv)
    rcases yZ.get (hf'.JI (List.mem_cons_self ..)) with ⟨_,h⟩ | ⟨g,l',es,cl,rfl,h,ho,hE⟩
    · cases h
    injection h with h
    subst h
    obtain ⟨d1,hu1,hd1⟩:=T.ok.desc hi
    obtain ⟨d2,hu2,hd2⟩:=T.ok.desc hj
    have h1:=TD.of_map (hd1.trans hdesc)
    subst h1
    have h2:=lX false k w hu2 (hd2.trans hjd)
    have ho':w.heap[g]? =some (.map es cl):=ho
    have hst:=yZ.Ib (hf'.JI (List.mem_cons_self ..)) ho
    have hg:(getObj g).run P w= .ok (.map es cl) w:=kP ho'
    have go:∃ w',(execOp a.eval ⟨none, .mapUpdate t x y z,ty,pos,af,none⟩).run P w= .ok .skip w'∧sO [g] w w'∧Sat (.res (yZ K E (some g) (some (pG K.eq l k v)))::G) w':=by
      rcases Ic K E (hd2.trans hjd) k _ l es.toList 0 hE with ⟨g1,g2,g3,_⟩ | ⟨i',b,e0,g1,g2,g3,g4,_,g6,_⟩
      · obtain ⟨w', hr, hwr, hh⟩ := Ie (P := P) ho' (.map (es.push ⟨K.v k, .slice B v.length cc, cl⟩) (cl + 1))
        refine ⟨w',?_,hwr,yZ.turn hf' hwr hh ?_ (by rw [Array.toList_push]; exact hst.push _ _)⟩
        · simp [execOp,ha.eval hx,ha.eval hy,ha.eval hz,Instr.mapUpdate,run_underlying hu1,hg,h2,Instr.findKey,run_underlying hu2,g2,hr]
        · rw [g3, Array.toList_push]
          exact hE.snoc O ⟨B,cc,O,hvz⟩
      · have hmod : (es.modify i' fun e => { e with key := K.v k, val := .slice B v.length cc }).toList = es.toList.modify i' fun e => { e with key := K.v k, val := .slice B v.length cc } := Array.toList_modify
        obtain ⟨w',hr,hwr,hh⟩:=Ie (P:=P) ho' (.map (es.modify i' fun e=> { e with key:=K.v k,val:=.slice B v.length cc }) cl)
        refine ⟨w',?_,hwr,yZ.turn hf' hwr hh ?_ (by rw [hmod]; exact hst.modify (f:=fun e=> { e with key:=K.v k,val:=.slice B v.length cc }) (fun _=>O) _)⟩
        · have he1 : es[i']? = some e0 := by simpa using g3
          simp only [Nat.zero_add] at g2
          simp [execOp,ha.eval hx,ha.eval hy,ha.eval hz,Instr.mapUpdate,run_underlying hu1,hg,h2,Instr.findKey,run_underlying hu2,g2,he1,Instr.keyThatStays,g4,hr]
        · rw [hmod]
          exact g6 v _ ⟨B,cc,O,hvz⟩
    obtain ⟨w',hrun,hwr,IW⟩:=go
    unfold Oper.wp
    rw [hrun]
    exact hK _ _ (c _ _ (by simpa [Act.put] using hs) hdf (ha.JG) IW (hw.trans hwr.toSame))
theorem St.OI {α β:Type} {K:pQ α} {E:FH β} {t kt e:Nat} {ts:Array Nat} {i j:TI} {A:Option Nat} {m:Option (List (α × List β))} {x y:Operand} (k:α) (hx:ev Γ x=some (.map A)) (hy:ev Γ y=some (K.v k)) (hD:Del F (.res (yZ K E A m)) G)
    (hts:ts[0]? =some t) (hi:zY T.tt t=some i) (hdesc:i.desc= .map kt e) (hj:zY T.tt kt=some j) (hjd:j.desc=K.td)
    (c:St w0 nt Γ (.res (yZ K E A (m.map fun l=>SB K.eq l k))::G) (wpList P ops Q rest)):St w0 nt Γ F (wpList P ops Q (⟨none, .call { callee:=.builtin .delete,args:=#[x,y],argTypes:=ts },ty,pos,af,none⟩::rest)):=
  fun a w hs hdf ha hf hw=>wpList_plain O fun K' hK=>by
    have hf':=hf.front hD
    obtain ⟨d1,hu1,hd1⟩:=T.ok.desc hi
    obtain ⟨d2,hu2,hd2⟩:=T.ok.desc hj
    have h1:=TD.of_map (hd1.trans hdesc)
    subst h1
    have go:∃ w',(execOp a.eval ⟨none, .call { callee:=.builtin .delete,args:=#[x,y],argTypes:=ts },ty,pos,af,none⟩).run P w= .ok (.value (.tuple #[])) w'∧Same w w'∧Sat (.res (yZ K E A (m.map fun l=>SB K.eq l k))::G) w':=by
      rcases yZ.get (hf'.JI (List.mem_cons_self ..)) with ⟨rfl,rfl⟩ | ⟨g,l',es,cl,rfl,rfl,ho,hE⟩
      · have h2 := lX true k w hu2 (hd2.trans hjd)
        refine ⟨w,?_,Same.refl w,hf'⟩
        simp [execOp,resolve,invoke,ha.eval hx,ha.eval hy,builtin,Builtin.delete_,hts,run_underlying hu1,h2]
      · have ho' : w.heap[g]? = some (.map es cl) := ho
        have hg:(getObj g).run P w= .ok (.map es cl) w:=kP ho'
        have h2:=lX es.isEmpty k w hu2 (hd2.trans hjd)
        have hst:=yZ.Ib (hf'.JI (List.mem_cons_self ..)) ho
        rcases Ic K E (hd2.trans hjd) k _ l' es.toList 0 hE with ⟨g1,g2,g3,g4⟩ | ⟨i',b,e0,g1,g2,g3,_,_,_,g7⟩
        · obtain ⟨w', hr, hwr, hh⟩ := Ie (P := P) ho' (.map es cl)
          refine ⟨w',?_,hwr.toSame,yZ.turn hf' hwr hh (by show qD K E _ (SB K.eq l' k) _; rw [g4]; exact hE) hst⟩
          simp [execOp,resolve,invoke,ha.eval hx,ha.eval hy,builtin,Builtin.delete_,hts,run_underlying hu1,h2,hg,Instr.findKey,run_underlying hu2,g2,hr]
        · obtain ⟨w', hr, hwr, hh⟩ := Ie (P := P) ho' (.map (es.eraseIdxIfInBounds i') cl)
          have hi':i'<es.size:=by have:=(List.getElem?_eq_some_iff.1 g3).1; simpa using this
          have hel:(es.eraseIdxIfInBounds i').toList=es.toList.eraseIdx i':=by
            unfold Array.eraseIdxIfInBounds
            rw [dif_pos hi',Array.toList_eraseIdx]
          refine ⟨w',?_,hwr.toSame,yZ.turn hf' hwr hh ?_ (by rw [hel]; exact hst.erase _)⟩
          · simp only [Nat.zero_add] at g2
            simp [execOp,resolve,invoke,ha.eval hx,ha.eval hy,builtin,Builtin.delete_,hts,run_underlying hu1,h2,hg,Instr.findKey,run_underlying hu2,g2,hr]
          · have : (es.eraseIdxIfInBounds i').toList = es.toList.eraseIdx i' := by
              unfold Array.eraseIdxIfInBounds
              rw [dif_pos hi',Array.toList_eraseIdx]
            rw [this]
            exact g7
    obtain ⟨w',hrun,hsame,IW⟩:=go
    unfold Oper.wp
    rw [hrun]
    exact hK _ _ (c _ _ (by simpa [Act.put] using hs) hdf ha.JG IW (hw.trans hsame))
theorem St.NS {α β:Type} {K:pQ α} {E:FH β} {t kt e:Nat} {ts:Array Nat} {i:TI} {A:Option Nat} {m:Option (List (α × List β))} {x:Operand} (hd:Nat.blt d nt=true) (hx:ev Γ x=some (.map A)) (hm:As.res (yZ K E A m)∈F)
    (hts:ts[0]? =some t) (hi:zY T.tt t=some i) (hdesc:i.desc= .map kt e)
    (c:St w0 nt ((d, .int .i64 (((m.getD []).length:Nat):Int))::Γ) F (wpList P ops Q rest)):St w0 nt Γ F (wpList P ops Q (⟨some d, .call { callee:=.builtin .len,args:=#[x],argTypes:=ts },ty,pos,af,none⟩::rest)):=
  fun a w hs hdf ha hf hw=>wpList_plain O fun K' hK=>by
    obtain ⟨d1,hu1,hd1⟩:=T.ok.desc hi
    have h1:=TD.of_map (hd1.trans hdesc)
    subst h1
    have go:(execOp a.eval ⟨some d, .call { callee:=.builtin .len,args:=#[x],argTypes:=ts },ty,pos,af,none⟩).run P w= .ok (.value (.int .i64 (((m.getD []).length:Nat):Int))) w:=by
      rcases yZ.get (hf.JI hm) with ⟨rfl,rfl⟩ | ⟨g,l',es,cl,rfl,rfl,ho,hE⟩
      · simp [execOp,resolve,invoke,ha.eval hx,builtin,Builtin.len_,hts,run_underlying hu1,goInt]
      · have ho' : w.heap[g]? = some (.map es cl) := ho
        have hg:(getObj g).run P w= .ok (.map es cl) w:=kP ho'
        have:=hE.len
        simp [execOp,resolve,invoke,ha.eval hx,builtin,Builtin.len_,hts,run_underlying hu1,hg,goInt]
        simpa using congrArg Int.ofNat this
    unfold Oper.wp
    rw [go]
    exact hK _ _ (c _ w (by simp [Act.put,hs]) hdf (ha.put (hs▸Nat.le_of_ble_eq_true hd)) hf hw)
end
theorem yZ.new {α β:Type} {K:pQ α} {E:FH β} {g:Nat} {l:List (α × List β)} {es:Array MapEntry} {cl:Nat} {F:List As} {w:World} (hf:Sat (.res (yZ K E (some g) (some l))::F) w) (ho:w.heap[g]? =some (.map es cl))
  (hE:qD K E (FW (zN (.res (yZ K E (some g) (some l))::F)) w) l es.toList) (hS:OC es.toList cl):Sat (.res (yZ K E (some w.heap.size) (some l)):: .res (yZ K E (some g) (some l))::F) (w.alloc (.map es cl)):=by
 refine hf.FM (Ext.alloc w _) _ (by simp [yZ]) (fun k hk=>by simp [yZ] at hk; subst hk; simp) trivial ⟨es,cl,oU w _,hE.mono ?_,hS⟩
 intro k o hk
 unfold FW at*
 split at hk
 ·cases hk
 ·rename_i hn
  have hlt:=(Array.getElem?_eq_some_iff.1 hk).1
  have hn2:k∉(yZ K E (some w.heap.size) (some l)).gs++zN (.res (yZ K E (some g) (some l))::F):=by
   intro hm
   rcases List.mem_append.1 hm with hm | hm
   ·simp [yZ] at hm; omega
   ·exact hn hm
  rw [if_neg hn2,(Ext.alloc w _).block k hlt]
  exact hk
theorem zPn {P:Program} {ρ:Shelf.Ren} (L:SlLaysW.n5 P ρ) {α β:Type} (K:pQ α) (E:FH β) (A:Option Nat) (m:Option (List (α × List β))):
  AX P (ρ.f 5) [.map A] [.res (yZ K E A m)] (fun v F'=>∃ B,v= .map B∧F'= [.res (yZ K E B m), .res (yZ K E A m)]):=by
 intro w R IW
 have hf:Sat (.res (yZ K E A m)::R) w:=IW
 rcases yZ.get (hf.JI (List.mem_cons_self ..)) with ⟨rfl,rfl⟩ | ⟨g,l,es,cl,rfl,rfl,ho,hE⟩
 ·refine (AnyW.maps_Clone_nil L w).mono fun e w' ⟨he,hw⟩=>?_
  subst he; subst hw
  exact ⟨_,_,O,⟨none,O,O⟩,hf.SC K E,Same.refl _⟩
 ·have ho':w.heap[g]? =some (.map es cl):=ho
  refine (AnyW.maps_Clone L g es cl w ho').mono fun e w' ⟨he,hw⟩=>?_
  subst he; subst hw
  exact ⟨_,_,O,⟨some w.heap.size,O,O⟩,yZ.new hf ho' hE (yZ.Ib (hf.JI (List.mem_cons_self ..)) ho),(Ext.alloc w _).toSame⟩
def zQM:Shelf.Ren:=⟨fun x=>if x=5 then 94 else if x=7 then 127 else x,fun x=>if x=3 then 29 else if x=4 then 4 else if x=20 then 20 else if x=23 then 114 else if x=25 then 5 else x,fun x=>x⟩
theorem zPN:SlLaysW.n5 Tryz.prog zQM where
 mixed:=by kernel_rfl
 f5:=⟨Tryz.f94.name,by kernel_rfl,by kernel_rfl⟩
 f7:=by kernel_rfl
 t4:=by kernel_rfl
 a4:=fun _=>O
 z4:=fun _=>O
 v4:=fun _=>O
 t20:=by kernel_rfl
 a20:=fun _=>O
 z20:=fun _=>O
 v20:=fun _=>O
 t23:=by kernel_rfl
 a23:=fun _=>O
 z23:=fun _=>O
 v23:=fun _=>O
def Rq (m:Option (List (Int × List Int))):Option (Option (List (Int × List Int))):=some m
theorem zLQ {A:Option Nat} {m r:Option (List (Int × List Int))} (h:Rq m=some r):
  AX Tryz.prog 94 [.map A] [.res (yZ (xE .u8) (DC AP) A m)] (fun v F'=>∃ B,v= .map B∧F'= [.res (yZ (xE .u8) (DC AP) A m), .res (yZ (xE .u8) (DC AP) B r)]):=by
 injection h with h
 subst h
 intro w R hs
 exact (zPn zPN (xE .u8) (DC AP) A m w R hs).mono fun e w' ⟨v,F',h1,⟨B,h2,h3⟩,h4,h5⟩=>by
  subst h3
  exact ⟨v,_,h1,⟨B,h2,O⟩,h4.perm (List.Perm.swap ..),h5⟩
section
open Go.ChangeMaps (setBlock)
def tZ {α β:Type} (K:pQ α) (E:FH β) (A:Option Nat) (m:Option (List (α × List β))) (it:Nat) (done:List α):OY where
 gs:=it::A.toList
 p _:=True
 loc _ _ _ h:=h
 q h z:=match A,m with
  | none,none=>h it=some (.mapIter none 0 #[] 0)∧done= []
  | some g,some m=>∃ (es:Array MapEntry) (cl:Nat) (ds:List MapEntry),h g=some (.map es cl)∧qD K E z m es.toList∧OC es.toList cl∧h it=some (.mapIter (some g) cl (ds.map (·.born)).toArray cl)∧(∀ x∈ds,x∈es.toList)∧(ds.map (·.born)).Nodup∧done.map K.v=ds.map (·.key)
  | _,_=>False
 OG a a' z z' hm hz h:=by
  cases A with
  | none=>
   cases m with
   | none=>exact ⟨(hm it (by simp)).symm.trans h.1,h.2⟩
   | some x=>exact h
  | some g=>
   cases m with
   | none=>exact h
   | some x=>
    obtain ⟨es,cl,ds,h1,h2,h3,h4,h5⟩:=h
    exact ⟨es,cl,ds,(hm g (by simp)).symm.trans h1,h2.mono hz,h3,(hm it (by simp)).symm.trans h4,h5⟩
theorem tZ.get {α β:Type} {K:pQ α} {E:FH β} {A:Option Nat} {m:Option (List (α × List β))} {it:Nat} {done:List α} {h z:Hp} (hq:(tZ K E A m it done).q h z):
  (A=none∧m=none∧h it=some (.mapIter none 0 #[] 0)∧done= [])∨∃ (g:Nat) (l:List (α × List β)) (es:Array MapEntry) (cl:Nat) (ds:List MapEntry),A=some g∧m=some l∧h g=some (.map es cl)∧qD K E z l es.toList∧OC es.toList cl∧h it=some (.mapIter (some g) cl (ds.map (·.born)).toArray cl)∧(∀ x∈ds,x∈es.toList)∧(ds.map (·.born)).Nodup∧done.map K.v=ds.map (·.key):=by
 cases A with
 | none=>
  cases m with
  | none=>exact .inl ⟨O,O,hq⟩
  | some x=>exact False.elim hq
 | some g=>
  cases m with
  | none=>exact False.elim hq
  | some x=>
   obtain ⟨es,cl,ds,h1⟩:=hq
   exact .inr ⟨g,x,es,cl,ds,O,O,h1⟩
theorem qD.keys {α β:Type} {K:pQ α} {E:FH β} {z:Hp}:∀ {m:List (α × List β)} {es:List MapEntry},qD K E z m es→es.map (·.key)=m.map fun x=>K.v x.1
 | [], [],_=>rfl
 | x::m,e::es,h=>by simp only [List.map_cons]; rw [h.1,qD.keys h.2.2]
 | [],_::_,h=>h.elim
 | _::_, [],h=>h.elim
theorem qD.Ai {α β:Type} {K:pQ α} {E:FH β} {z:Hp} {e:MapEntry}:∀ {m:List (α × List β)} {es:List MapEntry},qD K E z m es→e∈es→∃ k,e.key=K.v k∧∃ v,(k,v)∈m
 | x::m,y::es,h,he=>by
  rcases List.mem_cons.1 he with rfl | he
  ·exact ⟨x.1,h.1,x.2,by simp⟩
  ·obtain ⟨k,h1,v,h2⟩:=qD.Ai h.2.2 he
   exact ⟨k,h1,v,by simp [h2]⟩
 | [], [],_,he=>by cases he
 | [],_::_,h,_=>h.elim
 | _::_, [],h,_=>h.elim
theorem Rt {es:List MapEntry} (hn:(es.map (·.born)).Nodup) {x y:MapEntry} (hx:x∈es) (hy:y∈es) (h:x.born=y.born):x=y:=by
 induction es with
 | nil=>cases hx
 | cons e r ih=>
  rw [List.map_cons] at hn
  have h2:=List.nodup_cons.1 hn
  rcases List.mem_cons.1 hx with hx1 | hx1
  ·rcases List.mem_cons.1 hy with hy1 | hy1
   ·rw [hx1,hy1]
   ·exact absurd (show e.born∈r.map (·.born) from List.mem_map.2 ⟨y,hy1,by rw [←hx1,h]⟩) h2.1
  ·rcases List.mem_cons.1 hy with hy1 | hy1
   ·exact absurd (show e.born∈r.map (·.born) from List.mem_map.2 ⟨x,hx1,by rw [←hy1,h]⟩) h2.1
   ·exact ih h2.2 hx1 hy1
theorem zIe:∀ {l m:List Nat},l.Nodup→(∀ x∈l,x∈m)→l.length≤m.length
 | [],_,_,_=>Nat.zero_le _
 | x::l,m,h,hs=>by
  have h2:=List.nodup_cons.1 h
  have hx:=hs x (by simp)
  have:=zIe (m:=m.erase x) h2.2 fun y hy=>(List.mem_erase_of_ne (a:=y) (b:=x) (fun e=>h2.1 (by rw [←e]; exact hy))).2 (hs y (by simp [hy]))
  rw [List.length_erase_of_mem hx] at this
  have:=List.length_pos_of_mem hx
  simp only [List.length_cons]
  omega
theorem zCU {α β:Type} {f:α→β} {l:List α} (h:(l.map f).Nodup):l.Nodup:=by
 induction l with
 | nil=>exact List.nodup_nil
 | cons x r ih=>
  rw [List.map_cons] at h
  have h2:=List.nodup_cons.1 h
  exact List.nodup_cons.2 ⟨fun hx=>h2.1 (List.mem_map_of_mem hx),ih h2.2⟩
section
variable {P:Program} [T:ET P] {w0:World} {nt:Nat} {Γ Γ':Env} {F F' G R:List As} {Q:Exit→Act→World→Prop} {ops:Array Oper} {rest:List Oper}
variable {d:Nat} {op:Op} {ty:Nat} {pos:String} {af:Array Edge} {X:List Oper→Act→World→Prop} {Post:Value→List As→Prop}
theorem St.ah {α β:Type} {K:pQ α} {E:FH β} {t kt e:Nat} {i:TI} {A:Option Nat} {m:Option (List (α × List β))} {x:Operand} (hd:Nat.blt d nt=true) (hx:ev Γ x=some (.map A)) (hD:Del F (.res (yZ K E A m)) G)
    (hi:zY T.tt t=some i) (hdesc:i.desc= .map kt e)
    (c:∀ it,St w0 nt ((d, .pointer (some ⟨it,0,none⟩))::Γ) (.res (tZ K E A m it [])::G) (wpList P ops Q rest)):St w0 nt Γ F (wpList P ops Q (⟨some d, .range t x,ty,pos,af,none⟩::rest)):=
  fun a w hs hdf ha hf hw=>wpList_plain O fun K' hK=>by
    have hf':=hf.front hD
    obtain ⟨d1,hu1,hd1⟩:=T.ok.desc hi
    have h1:=TD.of_map (hd1.trans hdesc)
    subst h1
    have go:∃ o:Obj,(execOp a.eval ⟨some d, .range t x,ty,pos,af,none⟩).run P w= .ok (.value (.pointer (some ⟨w.heap.size,0,none⟩))) (w.alloc o)∧Sat (.res (tZ K E A m w.heap.size [])::G) (w.alloc o):=by
      have hb:=hf'.nodup
      rcases yZ.get (hf'.JI (List.mem_cons_self ..)) with ⟨rfl,rfl⟩ | ⟨g,l,es,cl,rfl,rfl,ho,hE⟩
      · refine ⟨.mapIter none 0 #[] 0, ?_, ?_⟩
        · simp [execOp,ha.eval hx,run_range_nilMap w t kt e hu1]
        · refine hf'.exchange (r' := tZ K E none none w.heap.size []) ⟨(Ext.alloc w _).toSame, fun k hk _ => (Ext.alloc w _).block k hk⟩ (by simp [tZ]) (fun k hk => ?_) trivial ⟨oU w _, O⟩
          simp [tZ] at hk
          subst hk
          exact ⟨by simp, .inr (Nat.le_refl _)⟩
      · have ho' : w.heap[g]? = some (.map es cl) := ho
        have hlt:g<w.heap.size:=hf'.lt (by simp [zN,As.gs,yZ])
        have hst:=yZ.Ib (hf'.JI (List.mem_cons_self ..)) ho
        refine ⟨.mapIter (some g) cl #[] cl,?_,?_⟩
        · simp [execOp,ha.eval hx,run_range_map w t kt e g es cl hu1 ho']
        · refine hf'.exchange (r' := tZ K E (some g) (some l) w.heap.size []) ⟨(Ext.alloc w _).toSame, fun k hk _ => (Ext.alloc w _).block k hk⟩ (by simp [tZ]; omega) (fun k hk => ?_) trivial ?_
          · simp [tZ] at hk
            rcases hk with rfl | rfl
            · exact ⟨by simp, .inr (Nat.le_refl _)⟩
            · exact ⟨by simp; omega, .inl (by simp [yZ])⟩
          · refine ⟨es, cl, [], ((Ext.alloc w _).block g hlt).trans ho', hE.mono ?_, hst, oU w _, (fun x hx => by cases hx), List.nodup_nil, rfl⟩
            intro k o hk
            unfold FW at*
            split at hk
            · cases hk
            · rename_i hn
              have hlt2:=(Array.getElem?_eq_some_iff.1 hk).1
              rw [if_neg (fun hm=>by
                rcases List.mem_append.1 hm with hm | hm
                · simp [tZ] at hm
                  rcases hm with rfl | rfl
                  · omega
                  · exact hn (by simp [zN,As.gs,yZ])
                · exact hn (by simp [zN,hm])),(Ext.alloc w _).block k hlt2]
              exact hk
    obtain ⟨o,hrun,IW⟩:=go
    unfold Oper.wp
    rw [hrun]
    exact hK _ _ (c _ _ _ (by simp [Act.put,hs]) hdf (ha.put (hs▸Nat.le_of_ble_eq_true hd)) IW (hw.trans (Ext.alloc w _).toSame))
def rV {α β:Type} (m:Option (List (α × List β))):List α:=(m.getD []).map (·.1)
theorem St.Aj {α β:Type} {K:pQ α} {E:FH β} {A:Option Nat} {m:Option (List (α × List β))} {x:Operand} {it:Nat} {done:List α} {G:List As} (hd:Nat.blt d nt=true) (hx:ev Γ x=some (.pointer (some ⟨it,0,none⟩))) (hD:Del F (.res (tZ K E A m it done)) G)
    (c0:(done.map K.v).Perm ((rV m).map K.v)→St w0 nt ((d, .tuple #[.bool false])::Γ) (.res (tZ K E A m it done)::G) (wpList P ops Q rest))
    (c1:∀ k v,done.length<(rV m).length→St w0 nt ((d, .tuple #[.bool true,K.v k,v])::Γ) (.res (tZ K E A m it (done++ [k]))::G) (wpList P ops Q rest)):
    St w0 nt Γ F (wpList P ops Q (⟨some d, .next x false,ty,pos,af,none⟩::rest)):=
  fun a w hs hdf ha hf hw=>wpList_plain O fun K' hK=>by
    have hf':=hf.front hD
    unfold Oper.wp
    rcases tZ.get (hf'.JI (List.mem_cons_self ..)) with ⟨rfl,rfl,hit,rfl⟩ | ⟨g,l,es,cl,ds,rfl,rfl,ho,hE,hst,hit,hds,hdn,hk⟩
    · have hit' : w.heap[it]? = some (.mapIter none 0 #[] 0) := hit
      have hr:(execOp a.eval ⟨some d, .next x false,ty,pos,af,none⟩).run P w= .ok (.value (.tuple #[.bool false])) w:=by
        simp [execOp,ha.eval hx,Instr.next,getObj,Sem.run,hit',Result.andThen]
      rw [hr]
      exact hK _ _ (c0 (by simp [rV]) _ w (by simp [Act.put,hs]) hdf (ha.put (hs▸Nat.le_of_ble_eq_true hd)) hf' hw)
    · have hit' : w.heap[it]? = some (.mapIter (some g) cl (ds.map (·.born)).toArray cl) := hit
      have ho':w.heap[g]? =some (.map es cl):=ho
      have hne:it≠g:=fun e=>by rw [e,ho'] at hit'; cases hit'
      have hlt:it<w.heap.size:=hf'.lt (by simp [zN,As.gs,tZ])
      have Ru:g<w.heap.size:=hf'.lt (by simp [zN,As.gs,tZ])
      have hdp:ds.Nodup:=zCU hdn
      have hep:es.toList.Nodup:=zCU hst.2
      have hks:(rV (some l)).map K.v=es.toList.map (·.key):=by
        rw [hE.keys]; simp [rV,List.map_map]
      rcases run_next_at (P:=P) w ty it g cl cl (ds.map (·.born)).toArray es cl hit' ho' hst.1 (Nat.le_refl _) with ⟨h0,hrun⟩ | ⟨e,he,w1,hw1,hrun⟩
      · have hr : (execOp a.eval ⟨some d, .next x false, ty, pos, af, none⟩).run P w = .ok (.value (.tuple #[.bool false])) w := by
          simp [execOp,ha.eval hx,hrun]
        rw [hr]
        refine hK _ _ (c0 ?_ _ w (by simp [Act.put,hs]) hdf (ha.put (hs▸Nat.le_of_ble_eq_true hd)) hf' hw)
        rw [hk,hks]
        refine List.Perm.map _ ((List.perm_ext_iff_of_nodup hdp hep).2 fun y=>⟨hds y,fun hy=>?_⟩)
        have:=all_seen es _ h0 y hy
        simp at this
        obtain ⟨z,hz,hzb⟩:=this
        rw [←Rt hst.2 (hds z hz) hy hzb]
        exact hz
      · obtain ⟨hem, hes⟩ := mem_left he
        obtain ⟨k,hek,v0,hkv⟩:=hE.Ai hem
        have hr:(execOp a.eval ⟨some d, .next x false,ty,pos,af,none⟩).run P w= .ok (.value (.tuple #[.bool true,K.v k,e.val])) (setBlock w1 it (.mapIter (some g) cl ((ds.map (·.born)).toArray.push e.born) cl)):=by
          simp [execOp,ha.eval hx,hrun,hek]
        rw [hr]
        have hnot:e∉ds:=fun hed=>by
          have:(ds.map (·.born)).toArray.contains e.born=true:=by simp; exact ⟨e,hed,O⟩
          rw [this] at hes; cases hes
        have hlen:done.length<(rV (some l)).length:=by
          have e1:done.length=ds.length:=by have:=congrArg List.length hk; simpa using this
          have e2:(rV (some l)).length=es.toList.length:=by have:=congrArg List.length hks; simpa using this
          have hnb:e.born∉ds.map (·.born):=fun h=>by
            obtain ⟨y,hy,hyb⟩:=List.mem_map.1 h
            exact hnot (Rt hst.2 (hds y hy) hem hyb▸hy)
          have:=zIe (l:=e.born::ds.map (·.born)) (m:=es.toList.map (·.born)) (List.nodup_cons.2 ⟨hnb,hdn⟩) fun y hy=>by
            rcases List.mem_cons.1 hy with rfl | hy
            · exact List.mem_map_of_mem hem
            · obtain ⟨z, hz, rfl⟩ := List.mem_map.1 hy
              exact List.mem_map_of_mem (hds z hz)
          simp only [List.length_cons,List.length_map] at this
          omega
        have hsz:w1.heap=w.heap:=by rcases hw1 with rfl | rfl <;> rfl
        have hext:sO [it] w (setBlock w1 it (.mapIter (some g) cl ((ds.map (·.born)).toArray.push e.born) cl)):=by
          refine ⟨?_,fun i hi hn=>?_⟩
          · rcases hw1 with rfl | rfl
            · exact ⟨O,O,O,by simp [setBlock]⟩
            · exact ⟨O,O,O,by show w.heap.size≤(w.heap.setIfInBounds it _).size; simp⟩
          · simp only [List.mem_singleton] at hn
            show (w1.heap.setIfInBounds it _)[i]? =w.heap[i]?
            rw [hsz,Array.getElem?_setIfInBounds_ne (fun h=>hn h.symm)]
        have hwr:sO (tZ K E (some g) (some l) it done).gs w (setBlock w1 it (.mapIter (some g) cl ((ds.map (·.born)).toArray.push e.born) cl)):=⟨hext.toSame,fun i hi hn=>hext.block i hi (fun hm=>hn (by simp only [List.mem_singleton] at hm; subst hm; simp [tZ]))⟩
        refine hK _ _ (c1 k e.val hlen _ _ (by simp [Act.put,hs]) hdf (ha.put (hs▸Nat.le_of_ble_eq_true hd)) ?_ (hw.trans hext.toSame))
        refine hf'.exchange (r':=tZ K E (some g) (some l) it (done++ [k])) hwr (by simp [tZ]; exact hne) (fun i hi=>?_) trivial ?_
        · exact ⟨Nat.lt_of_lt_of_le (by simp [tZ] at hi; rcases hi with rfl | rfl <;> assumption) hext.size, .inl hi⟩
        · refine ⟨es, cl, ds ++ [e], (hext.block g Ru (by simp; exact fun h => hne h.symm)).trans ho', hE.mono ?_, hst, ?_, fun y hy => ?_, ?_, ?_⟩
          · intro i o lg
            unfold FW at*
            split at lg
            · cases lg
            · rename_i hn
              have hlt2:=(Array.getElem?_eq_some_iff.1 lg).1
              rw [if_neg (fun hm=>hn (by simpa [zN,As.gs,tZ] using hm)),hext.block i hlt2 (fun hm=>hn (by simp only [List.mem_singleton] at hm; subst hm; simp [zN,As.gs,tZ]))]
              exact lg
          · show (w1.heap.setIfInBounds it _)[it]? = _
            rw [hsz]
            simp [hlt]
          · rcases List.mem_append.1 hy with hy | hy
            · exact hds y hy
            · simp only [List.mem_singleton] at hy; subst hy; exact hem
          · rw [List.map_append]
            refine List.nodup_append.2 ⟨hdn,by simp,fun p hp q hq=>?_⟩
            simp only [List.map_cons,List.map_nil,List.mem_singleton] at hq
            subst hq
            intro h
            subst h
            obtain ⟨y,hy,hyb⟩:=List.mem_map.1 hp
            exact hnot (Rt hst.2 (hds y hy) hem hyb▸hy)
          · rw [List.map_append,List.map_append,hk,List.map_cons,List.map_nil,List.map_cons,List.map_nil,hek]
theorem St.ai {α β:Type} {K:pQ α} {E:FH β} {A:Option Nat} {m:Option (List (α × List β))} {x:Operand} {it:Nat} {done:List α} {k:α} (hd:Nat.blt d nt=true) (hx:ev Γ x=some (.pointer (some ⟨it,0,none⟩))) (hm:As.res (tZ K E A m it (done++ [k]))∈F)
    (c:∀ v,St w0 nt ((d, .tuple #[K.v k,v])::Γ) F (wpList P ops Q rest)):
    St w0 nt Γ F (wpList P ops Q (⟨some d, .entry x,ty,pos,af,none⟩::rest)):=
  fun a w hs hdf ha hf hw=>wpList_plain O fun K' hK=>by
    unfold Oper.wp
    rcases tZ.get (hf.JI hm) with ⟨rfl,rfl,hit,h⟩ | ⟨g,l,es,cl,ds,rfl,rfl,ho,hE,hst,hit,hds,hdn,hk⟩
    · simp at h
    · have hit' : w.heap[it]? = some (.mapIter (some g) cl (ds.map (·.born)).toArray cl) := hit
      have ho':w.heap[g]? =some (.map es cl):=ho
      have hsp:∃ ds' e,ds=ds'++ [e]∧e.key=K.v k:=by
        rcases List.eq_nil_or_concat ds with rfl | ⟨ds',e,rfl⟩
        · simp at hk
        · refine ⟨ds', e, by simp, ?_⟩
          simp only [List.map_append,List.map_cons,List.map_nil,List.concat_eq_append] at hk
          exact (List.append_inj' hk O).2 |> fun h=>by simpa using h.symm
      obtain ⟨ds',e,rfl,hek⟩:=hsp
      have hit2:w.heap[it]? =some (.mapIter (some g) cl ((ds'.map (·.born)).toArray.push e.born) cl):=by
        rw [hit']; simp
      have hr:(execOp a.eval ⟨some d, .entry x,ty,pos,af,none⟩).run P w= .ok (.value (.tuple #[K.v k,e.val])) w:=by
        have:=run_entry_at (P:=P) w it g cl (ds'.map (·.born)).toArray es cl e hit2 ho' (hds e (by simp)) hst.2
        simp [execOp,ha.eval hx,this,hek]
      rw [hr]
      exact hK _ _ (c _ _ w (by simp [Act.put,hs]) hdf (ha.put (hs▸Nat.le_of_ble_eq_true hd)) hf hw)
theorem Sat.itV {α β:Type} {K:pQ α} {E:FH β} {A:Option Nat} {m:Option (List (α × List β))} {it:Nat} {done:List α} {F:List As} {w:World} (h:Sat (.res (tZ K E A m it done)::F) w):Sat (.res (yZ K E A m)::F) w:=by
 refine h.exchange (r':=yZ K E A m) ⟨Same.refl w,fun _ _ _=>O⟩ (by cases A <;> simp [yZ]) (fun k hk=>⟨h.lt ?_, .inl ?_⟩) trivial ?_
 ·simp only [yZ] at hk
  simp [zN,As.gs,tZ]
  cases A with
  | none=>simp at hk
  | some g=>simp at hk; subst hk; simp
 ·simp only [yZ] at hk
  simp only [tZ]
  exact List.mem_cons_of_mem _ hk
 ·rcases tZ.get (h.JI (List.mem_cons_self ..)) with ⟨rfl,rfl,_⟩ | ⟨g,l,es,cl,ds,rfl,rfl,ho,hE,hst,_⟩
  ·trivial
  ·refine ⟨es,cl,ho,hE.mono (cX w fun k hk=>?_),hst⟩
   rcases List.mem_append.1 hk with hk | hk
   ·simp [yZ] at hk; subst hk; simp [zN,As.gs,tZ]
   ·simp [zN,hk]
end
end
def WC:Result Next→Prop
 | .ok (.value _) _=>True
 | .ok .skip _=>True
 | .halt _ _=>True
 | _=>False
def iG (o:Oper):Prop:=(o.guard=none∧∀ c,o.op≠.defer c)∧∀ (P:Program) (ev:Operand→Value) (w:World),WC ((execOp ev o).run P w)
theorem zOw {P:Program} {w:World} (x:Sem Value):WC ((do pure (Next.value (←x)):Sem Next).run P w):=by
 rw [Sem.run_bind]
 cases x.run P w with
 | ok v w'=>simp [Result.andThen,WC]
 | halt h w'=>simp [Result.andThen,WC]
theorem zUN {P:Program} {w:World} (x:Sem Unit):WC ((do x; pure Next.skip:Sem Next).run P w):=by
 rw [Sem.run_bind]
 cases x.run P w with
 | ok v w'=>simp [Result.andThen,WC]
 | halt h w'=>simp [Result.andThen,WC]
theorem zFV {d ty pos af x}:iG ⟨some d, .move x,ty,pos,af,none⟩:=⟨⟨O,fun c h=>by cases h⟩,fun P ev w=>by simp [execOp,WC]⟩
theorem hZ {d ty pos af x}:iG ⟨some d, .assign x,ty,pos,af,none⟩:=⟨⟨O,fun c h=>by cases h⟩,fun P ev w=>by simp [execOp,WC]⟩
theorem aE {d ty pos af t x}:iG ⟨some d, .load t x,ty,pos,af,none⟩:=⟨⟨O,fun c h=>by cases h⟩,fun P ev w=>by unfold execOp; exact zOw _⟩
theorem zEM {d ty pos af t n ps}:iG ⟨some d, .buildSlice t n ps,ty,pos,af,none⟩:=⟨⟨O,fun c h=>by cases h⟩,fun P ev w=>by unfold execOp; exact zOw _⟩
theorem zEI {ty pos af t x y}:iG ⟨none, .store t x y,ty,pos,af,none⟩:=⟨⟨O,fun c h=>by cases h⟩,fun P ev w=>by unfold execOp; exact zUN _⟩
theorem zCR {d ty pos af xs ts}:iG ⟨some d, .call { callee:=.builtin .append,args:=xs,argTypes:=ts },ty,pos,af,none⟩:=⟨⟨O,fun c h=>by cases h⟩,fun P ev w=>by
 simp only [execOp,resolve,Sem.run_bind,Sem.run_pure,Result.andThen_ok,invoke,builtin]
 generalize Sem.run P (Builtin.append_ ts ty (Array.map ev xs)) w=r
 cases r <;> simp [Result.andThen,WC]⟩
theorem Ig {Fn:Fence} {n:Nat} {P:Program} {ops:Array Oper} {Qx Q:Exit→Act→World→Prop} (hF:∀ f,Fn.fn f) (hq:∀ e a w,Qx e a w→e= .normal∧Q .normal a w):∀ (l:List Oper) (a:Act) (w:World),(∀ o∈l,iG o)→wpList P ops Qx l a w→wpListIn Fn n P ops Q l a w
 | [],a,w,_,h=>(hq _ _ _ h).2
 | o::l,a,w,ho,h=>by
  obtain ⟨⟨hg,hnd⟩,hr⟩:=ho o (by simp)
  have hw:Region.wanted o (yielded ops a.tmps)=true:=by simp [Region.wanted,hg]
  unfold wpList at h
  rw [if_pos hw] at h
  unfold wpListIn
  rw [if_pos hw]
  rcases h with h | ⟨_,a',w',h⟩
  ·unfold Oper.wp at h
   unfold Oper.wpIn
   refine ⟨fun f _=>hF f,?_⟩
   rw [Oper.semAt_eq _ _ _ hnd]
   have hok:=hr P a.eval w
   revert h hok
   generalize (execOp a.eval o).run P w=r
   intro h hok
   cases r with
   | ok nx w'=>
    cases nx with
    | value v=>exact Ig hF hq l _ _ (fun o' h'=>ho o' (by simp [h'])) h
    | skip=>exact Ig hF hq l _ _ (fun o' h'=>ho o' (by simp [h'])) h
    | _=>exact hok.elim
   | halt hh w'=>
    cases hh with
    | panic v=>have:=(hq _ _ _ h).1; cases this
    | _=>exact False.elim h
  ·have:=(hq _ _ _ h).1
   cases this
instance (P:Program) (ops:Array Oper) (Q:Exit→Act→World→Prop):Walk P ops (wpListIn Fence.wide 0 P ops Q) where
 val o rest a w v hw hr hx:=by
  unfold wpListIn
  rw [if_pos hw]
  unfold Oper.wpIn
  refine ⟨fun _ _=>trivial,?_⟩
  rw [Fence.wide_round,Oper.semAt_none,hr w (Ext.refl w)]
  exact hx
 pass o rest a w hw hx:=by
  unfold wpListIn
  rw [if_neg (by simp [hw])]
  exact ⟨fun _ _=>trivial,hx⟩
 bare o o' rest a w hw hw' hd ho ht hx:=by
  unfold wpListIn at hx ⊢
  rw [if_pos hw'] at hx
  rw [if_pos hw]
  have:execOp a.eval o=execOp a.eval o':=by unfold execOp; rw [ho,ht]
  unfold Oper.wpIn at hx ⊢
  refine ⟨fun _ _=>trivial,?_⟩
  have hx2:=hx.2
  rw [Fence.wide_round,Oper.semAt_none] at hx2 ⊢
  rw [this]
  revert hx2
  unfold Oper.uponIn
  rw [hd]
  exact id
 call o rest a w f args v hw hr hc hx:=by
  unfold wpListIn
  rw [if_pos hw]
  unfold Oper.wpIn
  refine ⟨fun _ _=>trivial,?_⟩
  rw [Fence.wide_round,Oper.semAt_none,hr w (Ext.refl w)]
  refine ⟨fun h=>by simp [Fence.wide] at h,callsIn_wide.2 ((hc w (Ext.refl w)).mono ?_)⟩
  rintro e w' ⟨rfl,hw'⟩
  exact hx w' hw'
def Ak {ε:Type} (P:Program) (l:Nat) (N:Nat) (Y:ε→List Int→List As):Prop:=∀ (e:ε) (pre:List Int) (x:Int) (w:World) (R:List As),pre.length<N→Sat (Y e pre++R) w→
 YieldAt Fence.wide 0 P l #[.int .u8 x] w fun o w'=>o= .returned (.bool true)∧∃ e',Sat (Y e' (pre++ [x])++R) w'∧Same w w'
section
variable {P:Program} [T:ET P] {w0:World} {nt:Nat} {Γ Γ':Env} {F F' G R:List As} {Q:Exit→Act→World→Prop} {ops:Array Oper} {rest:List Oper}
variable {d:Nat} {op:Op} {ty:Nat} {pos:String} {af:Array Edge} {X:List Oper→Act→World→Prop} {Post:Value→List As→Prop}
theorem St.RD {id:Nat} {l:List Oper} (h:St w0 nt Γ F (wpListIn Fence.wide 0 P l.toArray Q l)):St w0 nt Γ F ((Code.region id l.toArray false).wp P Q):=
 fun a w hs hd ha hf hw=>wpIn_wide.1 (wpIn_region_lit (h a w hs hd ha hf hw))
theorem St.YL (h:St w0 nt Γ F (Q .normal)):St w0 nt Γ F (wpListIn Fence.wide 0 P ops Q []):=fun a w hs hd ha hf hw=>wpListIn_nil (h a w hs hd ha hf hw)
theorem St.yield {ε:Type} {l N:Nat} {Y:ε→List Int→List As} (h:Ak P l N Y) {e:ε} {pre:List Int} {k:Int} {x y:Operand} {ts:Array Nat} (hl:pre.length<N) (hd:Nat.blt d nt=true) (hx:ev Γ x=some (.func (.yield l) #[] #[])) (hy:ev Γ y=some (.int .u8 k))
    (hF:∀ w,Sat F w→Sat (Y e pre++R) w) (c:∀ e',St w0 nt ((d, .bool true)::Γ) (Y e' (pre++ [k])++R) (wpListIn Fence.wide 0 P ops Q rest)):
    St w0 nt Γ F (wpListIn Fence.wide 0 P ops Q (⟨some d, .call { callee:=.value x,args:=#[y],argTypes:=ts },ty,pos,af,none⟩::rest)):=
  fun a w hs hdf ha hf hw=>wpListIn_plain O fun K hK=>by
    obtain ⟨fn,tmps,assign,body,hy1,hR⟩:=h e pre k w R hl (hF w hf)
    have hr:(execOp a.eval ⟨some d, .call { callee:=.value x,args:=#[y],argTypes:=ts },ty,pos,af,none⟩).run P w= .ok (.round l fn tmps assign body) w:=by
      simp [execOp,resolve,ha.eval hx,ha.eval hy,Deferred.ofValue,invoke,hy1]
    unfold Oper.wpIn
    refine ⟨fun _ _=>trivial,?_⟩
    rw [Fence.wide_round,Oper.semAt_none,hr]
    refine ⟨fun h=>by simp [Fence.wide] at h,hR.mono ?_⟩
    rintro o w' ⟨rfl,e',IW,hsame⟩
    exact hK _ _ (c e' _ _ (by simp [Act.put,hs]) hdf (ha.put (hs▸Nat.le_of_ble_eq_true hd)) IW (hw.trans hsame))
end
def Rw:Nat→Option (vM Nat Unit):=fun k=>some (if k=0 then .done () else .next (k - 1))
theorem gC:∀ n,zI Rw n=some ()
 | 0=>mO.2 ⟨1,O⟩
 | n+1=>by
  obtain ⟨k,hk⟩:=mO.1 (gC n)
  exact mO.2 ⟨k+1,by simp [iY,Rw]; exact hk⟩
theorem zUq {ε:Type} {l N:Nat} {Y:ε→List Int→List As} (hY:Ak Tryz.prog l N Y) {g:Nat} {A:Option Nat} {m:Option (List (Int × List Int))} (hN:(rV m).length≤N) (e0:ε):
  AX Tryz.prog 130 [.func (.yield l) #[] #[], .pointer (some ⟨g,0,none⟩)] (.res (Box g 114 [.map A]):: .res (yZ (xE .u8) (DC AP) A m)::Y e0 [])
   (fun v F'=>∃ e ss,(ss.map (xE .u8).v).Perm ((rV m).map (xE .u8).v)∧F'= .res (Box g 114 [.map A]):: .res (yZ (xE .u8) (DC AP) A m)::Y e ss):=by
 refine AX.intro Tryz.func130 O O O fun w R=>?_
 refine St.seq ?_
 refine St.region ?_
 refine St.JJ 0 O O (.head _) O O ?_
 refine St.ah O O (.s .z) O O fun it=>?_
 refine St.done ?_
 refine St.AB ?_
 refine St.slots (Γ':= [(0, .func (.yield l) #[] #[]),(1, .pointer (some ⟨g,0,none⟩)),(5, .pointer (some ⟨it,0,none⟩))]) ⟨O,O,O,trivial⟩ ?_
 refine St.block ?_
 refine St.loop (gC (rV m).length) (fun (_:Nat) (_:List Int × ε)=> [(0, .func (.yield l) #[] #[]),(1, .pointer (some ⟨g,0,none⟩)),(5, .pointer (some ⟨it,0,none⟩))]) (fun _ e=>.res (tZ (xE .u8) (DC AP) A m it e.1):: .res (Box g 114 [.map A])::(Y e.2 e.1++R)) (fun k e=>e.1.length+k=(rV m).length) ([],e0) (by simp) ⟨O,O,O,trivial⟩ (fun _ w=>w) ?_
 rintro k ⟨done,e⟩ hk -
 replace hk:done.length+k=(rV m).length:=hk
 refine St.seq ?_
 refine St.region ?_
 refine St.Aj O O .z (fun hp=>?_) (fun x v hlt=>?_)
 ·refine St.p O O ?_
  refine St.done ?_
  refine St.AB ?_
  refine St.seq ?_
  refine St.FN O ?_
  refine St.exit ?_
  repeat (first | refine St.QW ?_ | refine St.KX rfl ?_)
  refine St.NJ ?_
  exact St.WT (rs:= []) O O (.res (Box g 114 [.map A]):: .res (yZ (xE .u8) (DC AP) A m)::Y e done) ⟨e,done,hp,O⟩ (fun _ w=>(w.itV).front (.s .z))
 ·replace hlt:done.length<(rV m).length:=hlt
  refine St.p O O ?_
  refine St.done ?_
  refine St.AB ?_
  refine St.seq ?_
  refine St.EF O ?_
  refine St.skip ?_
  refine St.AB ?_
  refine St.slots (Γ':= [(0, .func (.yield l) #[] #[]),(1, .pointer (some ⟨g,0,none⟩)),(5, .pointer (some ⟨it,0,none⟩))]) ⟨O,O,O,trivial⟩ ?_
  refine St.block ?_
  refine St.seq ?_
  refine St.region ?_
  refine St.ai O O (.head _) fun v2=>?_
  iterate 2 refine St.p O O ?_
  refine St.done ?_
  refine St.AB ?_
  refine St.seq ?_
  refine St.RD ?_
  iterate 2 refine St.p O O ?_
  refine St.yield hY (e:=e) (pre:=done) (R:=.res (tZ (xE .u8) (DC AP) A m it (done++ [x])):: .res (Box g 114 [.map A])::R) (by omega) O O O (fun _ w=>w.perm ?_) fun e'=>?_
  ·exact ((List.perm_middle (l₁:=Y e done)).trans (List.Perm.cons _ (List.perm_middle (l₁:=Y e done)))).symm
  refine St.p O O ?_
  refine St.YL ?_
  refine St.AB ?_
  refine St.FN O ?_
  refine St.skip ?_
  refine St.BF ?_
  refine St.AB ?_
  exact St.again (k - 1) (done++ [x],e') (by simp only [Rw]; rw [if_neg (by omega)]) (by show (done++ [x]).length+(k - 1)=_; rw [List.length_append,List.length_singleton]; omega) ⟨O,O,O,trivial⟩ (fun _ w=>w.perm ((List.perm_middle (l₁:=Y e' (done++ [x]))).trans (List.Perm.cons _ (List.perm_middle (l₁:=Y e' (done++ [x]))))))
def cR (l:Nat) (r:Loop):OY where
 gs:= [l]
 p h:=h l=some (.loop r)
 loc m m' h k:=(h l (by simp)).symm.trans k
def TG (b:Nat):OY where
 gs:= [b]
 p h:=h b=some (.deferred (some []))
 loc m m' h k:=(h b (by simp)).symm.trans k
theorem jE {w:World} {l:Nat} {o:Obj}:sO [l] w (w.putObj l o):=⟨⟨O,O,O,by show w.heap.size≤(w.heap.setIfInBounds l o).size; simp⟩,fun k _ hn=>World.putObj_heap_other (by simpa using hn)⟩
theorem Sat.YM {l:Nat} {r r':Loop} {F:List As} {w:World} (h:Sat (.res (cR l r)::F) w):Sat (.res (cR l r')::F) (w.putObj l (.loop r')):=by
 have hlt:l<w.heap.size:=h.lt (by simp [zN,As.gs,cR])
 refine h.exchange (r':=cR l r') jE (by simp [cR]) (fun k hk=>⟨Nat.lt_of_lt_of_le (by simp [cR] at hk; subst hk; exact hlt) jE.size, .inl hk⟩) (World.putObj_heap_same hlt) trivial
theorem Ih {P:Program} {ops:Array Oper} {D:List Deferred} {Qx Q:Exit→Act→World→Prop} (hq:∀ e a w,Qx e a w→e= .normal∧Q .normal { a with defers:=D } w):∀ (l:List Oper) (a:Act) (w:World),(∀ o∈l,iG o)→wpList P ops Qx l a w→wpList P ops Q l { a with defers:=D } w
 | [],a,w,_,h=>(hq _ _ _ h).2
 | o::l,a,w,ho,h=>by
  obtain ⟨⟨hg,hnd⟩,hr⟩:=ho o (by simp)
  have hw:Region.wanted o (yielded ops a.tmps)=true:=by simp [Region.wanted,hg]
  unfold wpList at h
  rw [if_pos hw] at h
  refine wpList_plain hg fun K hK=>?_
  have hput:∀ v,({ a with defers:=D }:Act).put o.dst v= { (a.put o.dst v) with defers:=D }:=fun v=>by
   unfold Act.put
   cases o.dst <;> rfl
  rcases h with h | ⟨_,a',w',h⟩
  ·unfold Oper.wp at h ⊢
   have hok:=hr P a.eval w
   have hev:({ a with defers:=D }:Act).eval=a.eval:=by
    funext x; cases x <;> rfl
   rw [hev]
   revert h hok
   generalize (execOp a.eval o).run P w=r
   intro h hok
   cases r with
   | ok nx w'=>
    cases nx with
    | value v=>exact hK _ _ (by rw [hput]; exact Ih hq l _ _ (fun o' h'=>ho o' (by simp [h'])) h)
    | skip=>exact hK _ _ (by rw [hput]; exact Ih hq l _ _ (fun o' h'=>ho o' (by simp [h'])) h)
    | _=>exact hok.elim
   | halt hh w'=>
    cases hh with
    | panic v=>have:=(hq _ _ _ h).1; cases this
    | _=>exact False.elim h
  ·have:=(hq _ _ _ h).1
   cases this
section
variable {P:Program} [T:ET P] {w0:World} {nt:Nat} {Γ Γ':Env} {F F' G R:List As} {Q:Exit→Act→World→Prop} {ops:Array Oper} {rest:List Oper}
def Am (w0:World) (nt:Nat) (Γ:Env) (F:List As):Exit→Act→World→Prop:=fun e a w=>e= .normal∧a.tmps.size=nt∧a.defers= []∧At a Γ∧Sat F w∧Same w0 w
theorem St.ends:St w0 nt Γ F (Am w0 nt Γ F .normal):=fun a w hs hd ha hf hw=>⟨O,hs,hd,ha,hf,hw⟩
theorem zRp {ε:Type} {l N p q i1 i2 i3 fn b:Nat} {la lb:List Oper} {tmps:Array Value} {Y0:ε→List Int→List As}
  (hs:tmps.size=nt) (hΓ:At { tmps:=tmps,defers:= [] } Γ) (hp:Nat.blt p nt=true)
  (pa:∀ o∈la,iG o) (pb:∀ o∈lb,iG o)
  (hA:∀ (x:Int) (F:List As) (w1:World),St w1 nt ((p, .int .u8 x)::Γ) F (wpList P la.toArray (Am w1 nt ((q, .int .u8 x)::Γ) F) la))
  (hB:∀ (e:ε) (pre:List Int) (x:Int) (R:List As) (w1:World),pre.length<N→St w1 nt ((q, .int .u8 x)::Γ) (Y0 e pre++R) (wpList P lb.toArray (fun o a w=>o= .normal∧∃ e',Sat (Y0 e' (pre++ [x])++R) w∧Same w1 w) lb)):
  Ak P l N (fun e pre=>.res (cR l { state:=.ready,pending:=none,fn:=fn,tmps:=tmps,params:=#[p],assign:=Code.region i1 la.toArray false,body:=Code.block i2 (Code.region i3 lb.toArray false),defers:=b })::Y0 e pre):=by
 intro e pre x w R hl IW
 generalize hrec:({ state:=.ready,pending:=none,fn:=fn,tmps:=tmps,params:=#[p],assign:=Code.region i1 la.toArray false,body:=Code.block i2 (Code.region i3 lb.toArray false),defers:=b }:Loop)=r at IW ⊢
 have hL:w.heap[l]? =some (.loop r):=IW.res (List.mem_cons_self ..)
 have hy:=run_yield (P:=P) (args:=#[.int .u8 x]) hL (by rw [←hrec]; rfl)
 refine ⟨_,_,_,_,hy,roundIn_of_wpIn trivial ?_⟩
 have htm:(r.params.zip #[.int .u8 x]).foldl (fun tmps (t,a)=>tmps.setIfInBounds t a) r.tmps=tmps.setIfInBounds p (.int .u8 x):=by
  rw [←hrec]; simp
 rw [htm]
 have hra:r.assign=Code.region i1 la.toArray false:=by rw [←hrec]
 have hrb:r.body=Code.block i2 (Code.region i3 lb.toArray false):=by rw [←hrec]
 have hrs:r.state= .ready:=by rw [←hrec]
 have hrp:r.pending=none:=by rw [←hrec]
 rw [hra]
 have aF1:p<nt:=Nat.le_of_ble_eq_true hp
 have ha0:At { tmps:=tmps.setIfInBounds p (.int .u8 x),defers:= [] } ((p, .int .u8 x)::Γ):=At.put (a:= { tmps:=tmps,defers:= [] }) hΓ (by show p<tmps.size; omega)
 refine wpIn_region_lit (Ig (fun _=>trivial) ?_ _ _ _ pa (hA x _ w _ w (by simp [hs]) O ha0 IW (Same.refl w)))
 rintro o a1 w1 ⟨rfl,h1,h2,h3,h4,h5⟩
 refine ⟨O,?_⟩
 have hL1:w1.heap[l]? =some (.loop r):=h4.res (List.mem_cons_self ..)
 refine ⟨_,run_beginRound hL1 hrs,?_⟩
 have h6:=h4.YM (r':= { r with state:=.busy })
 have hsm:Same w1 (w1.putObj l (.loop { r with state:=.busy })):=(jE (w:=w1) (l:=l)).toSame
 revert h6 hsm
 generalize w1.putObj l (.loop { r with state:=.busy })=wB
 intro h6 hsm
 rw [hrb]
 refine wpIn_block (wpIn_region_lit (Ig (fun _=>trivial) ?_ _ _ _ pb (hB e pre x (.res (cR l { r with state:=.busy })::R) _ hl a1 _ h1 h2 h3 (h6.perm (List.perm_middle (l₁:=Y0 e pre)).symm) (Same.refl _))))
 rintro o a2 w2 ⟨rfl,e',h7,h8⟩
 refine ⟨O,?_⟩
 have h9:=h7.perm (List.perm_middle (l₁:=Y0 e' (pre++ [x])))
 have hL2:w2.heap[l]? =some (.loop { r with state:=.busy }):=h9.res (List.mem_cons_self ..)
 refine ⟨_,_,run_endRound none hL2,O,e',?_,?_⟩
 ·have h10:=h9.YM (r':=r)
  have er:({ ({ r with state:=.busy }:Loop) with state:=if (none:Option Code).isNone then .ready else .done,pending:=none }:Loop)=r:=by
   rw [←hrec]; rfl
  rw [er]
  exact h10
 ·exact h5.trans (hsm.trans (h8.trans (jE (w:=w2) (l:=l)).toSame))
end
theorem AX.UE {P:Program} {f:FuncId} {fn:Func} {c:Code} {args:List Value} {F:List As} {Post:Value→List As→Prop} {nt:Nat} (hf:P.funcs[f]? =some fn) (hb:fn.body=some c) (hn:fn.ntmps=nt) (hl:Nat.ble args.length nt=true)
  (h:∀ w R,St w nt (GX 0 args) (F++R) (c.wp P (bodyPostM Fence.wide 0 P fn (Out w R Post)))):AX P f args F Post:=by
 intro w R hs
 have hl':=Nat.le_of_ble_eq_true hl
 refine (callsIn_wide (n:=0)).1 (callsIn_of_wp_marks hf hb trivial (wpIn_wide.2 (h w R _ w ?_ O ?_ hs (Same.refl w))) O)
 ·simp [hn]; omega
 ·refine At.GX _ _ args 0 fun i v hv=>?_
  rw [Nat.zero_add]
  have hi:=(List.getElem?_eq_some_iff.1 hv).1
  rw [Array.getElem?_append_left (by simpa using hi)]
  simpa using hv
theorem zKc {P:Program} {f:FuncId} (he:BV P f) (args:Array Value) (w:World):(callFunc f args).run P w= .ok (.enter f args) w:=by
 obtain ⟨fn,h1,h2,h3⟩:=he
 unfold callFunc
 rw [Sem.run_bind,run_program]
 simp only [Result.andThen_ok,h1,h2,h3,Bool.false_eq_true,if_false,Sem.run_pure]
theorem Sat.UF {r:OY} {F:List As} {w w':World} (h:Sat (.res r::F) w) (hw:sO r.gs w w'):Sat F w':=
 (h.exchange (r':=⟨r.gs,fun _=>True,fun _ _ _ _=>trivial,fun _ _=>True,fun _ _ _ _ _ _ _=>trivial⟩) hw (List.nodup_append.1 h.nodup).1 (fun k hk=>⟨Nat.lt_of_lt_of_le (h.lt (by simp only [zN,As.gs]; exact List.mem_append_left _ hk)) hw.size, .inl hk⟩) trivial trivial).tail
theorem St.RF {P:Program} [T:ET P] {w0:World} {nt:Nat} {Γ:Env} {F G R:List As} {Q:Exit→Act→World→Prop} {ε:Type} {N p q i1 i2 i3 f:Nat} {la lb:List Oper} {x:Operand} {caps:List Value} {Y0:ε→List Int→List As} {S:List Int→Prop} (e0:ε)
  (hx:ev Γ x=some (.func (.func f) #[] caps.toArray)) (he:BV P f) (hp:Nat.blt p nt=true) (hF:∀ w,Sat F w→Sat (G++(Y0 e0 []++R)) w)
  (hcall:∀ (l:Nat) (Y:ε→List Int→List As),Ak P l N Y→AX P f (.func (.yield l) #[] #[]::caps) (G++Y e0 []) (fun v F'=>∃ e ss,S ss∧F'=G++Y e ss))
  (pa:∀ o∈la,iG o) (pb:∀ o∈lb,iG o)
  (hA:∀ (x:Int) (F:List As) (w1:World),St w1 nt ((p, .int .u8 x)::Γ) F (wpList P la.toArray (Am w1 nt ((q, .int .u8 x)::Γ) F) la))
  (hB:∀ (e:ε) (pre:List Int) (x:Int) (R:List As) (w1:World),pre.length<N→St w1 nt ((q, .int .u8 x)::Γ) (Y0 e pre++R) (wpList P lb.toArray (fun o a w=>o= .normal∧∃ e',Sat (Y0 e' (pre++ [x])++R) w∧Same w1 w) lb))
  (k:∀ (b:Nat) (e:ε) (ss:List Int),S ss→∀ a w,a.tmps.size=nt→a.defers= []→At a Γ→Sat (.res (TG b)::(G++(Y0 e ss++R))) w→Same w0 w→Q .normal { a with defers:= [{ target:=.collected b,args:=#[] }] } w):
  St w0 nt Γ F ((Code.rangeFunc x #[p] (Code.region i1 la.toArray false) (Code.block i2 (Code.region i3 lb.toArray false))).wp P Q):=by
 intro a w1 hs hdf ha hf hw
 refine (wpIn_wide (n:=0)).1 (wpIn_rangeFunc fun fn _=>?_)
 have hf2:=(hF w1 hf).FM (Ext.alloc w1 (.deferred (some []))) (TG w1.heap.size) (by simp [TG]) (fun k hk=>by simp [TG] at hk; subst hk; simp) (oU w1 _) trivial
 have hs2:(w1.alloc (.deferred (some []))).heap.size=w1.heap.size+1:=by simp
 have UG:=zRp (P:=P) (l:=w1.heap.size+1) (N:=N) (p:=p) (q:=q) (i1:=i1) (i2:=i2) (i3:=i3) (fn:=fn) (b:=w1.heap.size) (tmps:=a.tmps) (Y0:=Y0) hs (fun i v hv=>ha i v hv) hp pa pb hA hB
 generalize hrec:({ state:=.ready,pending:=none,fn:=fn,tmps:=a.tmps,params:=#[p],assign:=Code.region i1 la.toArray false,body:=Code.block i2 (Code.region i3 lb.toArray false),defers:=w1.heap.size }:Loop)=rec at UG
 have hf3:=hf2.FM (Ext.alloc _ (.loop rec)) (cR (w1.heap.size+1) rec) (by simp [cR]) (fun k hk=>by simp [cR] at hk; subst hk; simp) (by have:=oU (w1.alloc (.deferred (some []))) (.loop rec); rwa [hs2] at this) trivial
 have hsm:Same w1 ((w1.alloc (.deferred (some []))).alloc (.loop rec)):=(Ext.alloc w1 _).toSame.trans (Ext.alloc _ _).toSame
 have henter:=run_enterLoop_outer (P:=P) (w:=w1) fn a.tmps #[p] (Code.region i1 la.toArray false) (Code.block i2 (Code.region i3 lb.toArray false))
 rw [hrec] at henter
 revert hf3 hsm henter
 generalize (w1.alloc (.deferred (some []))).alloc (.loop rec)=w3
 intro hf3 hsm henter
 refine ⟨w1.heap.size+1,_,w3, { target:=.fn (.func f) caps.toArray,args:=#[.func (.yield (w1.heap.size+1)) #[] #[]] },w3,f,(Value.func (.yield (w1.heap.size+1)) #[] #[]::caps).toArray,w3,henter,?_,fun _ _=>trivial,?_,fun h=>by simp [Fence.wide] at h,callsIn_wide.2 ?_⟩
 ·have hev:Act.eval { tmps:=a.tmps,defers:=a.defers } x= .func (.func f) #[] caps.toArray:=ha.eval hx
  simp [resolve,ha.eval hx,Deferred.ofValue]
  try rfl
 ·simp only [invoke]
  have:=zKc he (#[Value.func (.yield (w1.heap.size+1)) #[] #[]]++caps.toArray) w3
  rw [this]
  congr 2
  simp
 ·have hmid:∀ (Y R:List As) (X:As),(G++(Y++X::R)).Perm (X::(G++(Y++R))):=fun Y R X=>by
   rw [←List.append_assoc,←List.append_assoc]
   exact List.perm_middle
  have hc:=hcall _ _ UG w3 (.res (TG w1.heap.size)::R) (hf3.perm ?_)
  ·refine hc.mono ?_
   rintro o w4 ⟨v,F',rfl,⟨e,ss,hS,rfl⟩,IW,hsame⟩
   have YN:=IW.perm (G:=.res (cR (w1.heap.size+1) rec):: .res (TG w1.heap.size)::(G++(Y0 e ss++R))) (by
    rw [List.append_assoc]
    exact (List.perm_middle (l₁:=G)).trans (List.Perm.cons _ (hmid _ _ _)))
   have hL:w4.heap[w1.heap.size+1]? =some (.loop rec):=YN.res (List.mem_cons_self ..)
   have hend:=run_endLoop (P:=P) hL (by rw [←hrec]; simp)
   have hpn:rec.pending=none:=by rw [←hrec]
   have hwr:sO (cR (w1.heap.size+1) rec).gs w4 (w4.putObj (w1.heap.size+1) (.loop { rec with state:=.exhausted })):=jE
   revert hend hwr
   generalize w4.putObj (w1.heap.size+1) (.loop { rec with state:=.exhausted })=w5
   intro hend hwr
   rw [hpn] at hend
   refine ⟨none,w5,hend,?_⟩
   have h5:=YN.UF hwr
   have:=k w1.heap.size e ss hS a w5 hs hdf ha h5 (hw.trans (hsm.trans (hsame.trans hwr.toSame)))
   rw [hdf]
   exact this
  ·rw [List.append_assoc]
   exact (List.Perm.cons _ (hmid _ _ _).symm).trans (List.perm_middle (l₁:=G)).symm
def ou (bs:Nat) (e:Option Addr × Nat) (pre:List Int):List As:= [.res (Box bs 29 [.slice e.1 pre.length e.2]), .res (zD AP 5 e.1 e.2 pre)]
theorem zSU:BV Tryz.prog 130:=⟨_,Tryz.func130,by kernel_rfl,by kernel_rfl⟩
theorem zMc {g:Nat} {A:Option Nat} {m:Option (List (Int × List Int))} (hm:(rV m).length≤1000):
  AX Tryz.prog 159 [.slice none 0 0, .func (.func 130) #[] #[.pointer (some ⟨g,0,none⟩)]] [.res (Box g 114 [.map A]), .res (yZ (xE .u8) (DC AP) A m)]
   (fun v F'=>∃ B c ss,(ss.map (xE .u8).v).Perm ((rV m).map (xE .u8).v)∧v= .slice B ss.length c∧F'= [.res (Box g 114 [.map A]), .res (yZ (xE .u8) (DC AP) A m), .res (zD AP 5 B c ss)]):=by
 refine AX.UE Tryz.func159 O O O fun w R=>?_
 refine St.seq ?_
 refine St.region ?_
 refine St.box O O fun bs=>?_
 refine St.p O O ?_
 refine St.done ?_
 refine St.AB ?_
 refine St.seq ?_
 refine St.seq ?_
 refine St.region ?_
 refine St.p O O ?_
 refine St.done ?_
 refine St.AB ?_
 refine St.slots (Γ':= [(2, .pointer (some ⟨bs,0,none⟩)),(6, .func (.func 130) #[] #[.pointer (some ⟨g,0,none⟩)])]) ⟨O,O,trivial⟩ ?_
 refine St.block ?_
 refine St.RF (N:=1000) (q:=5) (caps:= [.pointer (some ⟨g,0,none⟩)]) (Y0:=ou bs) (S:=fun ss=>(ss.map (xE .u8).v).Perm ((rV m).map (xE .u8).v)) (G:= [.res (Box g 114 [.map A]), .res (yZ (xE .u8) (DC AP) A m)]) (R:=R) (none,0) O zSU O (fun w h=>(((h.EH AP 5).front (.s .z)).front (FX 3 O)).front (FX 3 O)) (fun l Y hY=>zUq hY hm _) ?_ ?_ (fun x F w1=>?_) (fun e pre x R w1 hl=>?_) ?_
 ·intro o ho
  simp only [List.mem_cons,List.not_mem_nil,or_false] at ho
  subst ho
  exact hZ
 ·intro o ho
  simp only [List.mem_cons,List.not_mem_nil,or_false] at ho
  rcases ho with rfl | rfl | rfl | rfl | rfl
  ·exact aE
  ·exact zFV
  ·exact zEM
  ·exact zCR
  ·exact zEI
 ·refine St.p O O ?_
  refine St.done ?_
  refine St.slots (Γ':= [(5, .int .u8 x),(2, .pointer (some ⟨bs,0,none⟩)),(6, .func (.func 130) #[] #[.pointer (some ⟨g,0,none⟩)])]) ⟨O,O,O,trivial⟩ ?_
  exact St.ends
 ·have happ:app 1 pre [x]=some (pre++ [x]):=by
   unfold app
   rw [if_pos (by simp; omega)]
  refine St.JJ 0 O O (.head _) O O ?_
  refine St.p O O ?_
  refine St.buildSlice O O O O O O O O fun g1=>?_
  refine St.app (E:=AP) happ O O O (FX 2 O) O O O O O O O O (oP (.head _) O O) O O fun A4 c4=>?_
  refine St.store 0 O O O O O O (FX 2 O) O ?_
  refine St.done ?_
  intro a w hs hdf ha hf hw
  exact ⟨O,(A4,c4),((.k (.k (.d .z))):mM _ _).sat hf,hw⟩
 ·intro b e ss hS a w1 hs hdf ha hf hw
  have hst:∀ {X:Act→World→Prop},St w _ [(2, .pointer (some ⟨bs,0,none⟩)),(6, .func (.func 130) #[] #[.pointer (some ⟨g,0,none⟩)])] (.res (TG b)::([.res (Box g 114 [.map A]), .res (yZ (xE .u8) (DC AP) A m)]++(ou bs e ss++R))) X→X a w1:=fun h=>h a w1 hs hdf ha hf hw
  refine wp_seq ?_
  refine wp_region_lit (Ih (Qx:=Am w Tryz.f159.ntmps [(4, .slice e.1 ss.length e.2)] (.res (TG b)::([.res (Box g 114 [.map A]), .res (yZ (xE .u8) (DC AP) A m)]++(ou bs e ss++R)))) ?_ _ a w1 ?_ (hst ?_))
  ·rintro o a2 w2 ⟨rfl,h1,h2,h3,h4,h5⟩
   refine ⟨O,?_⟩
   refine wp_ret ?_
   have hD:w2.heap[b]? =some (.deferred (some [])):=h4.res (List.mem_cons_self ..)
   have hwr:sO (TG b).gs w2 (w2.putObj b (.deferred none)):=jE
   have h6:=h4.UF hwr
   refine ⟨by simp, .inl ⟨b,_,O,run_takeDeferred hD, .slice e.1 ss.length e.2,eG h3 (rs:= [.tmp 4]) O O,?_⟩⟩
   refine ⟨_,_,O,⟨e.1,e.2,ss,hS,O,O⟩,?_,h5.trans hwr.toSame⟩
   exact ((.k (.k (.d (.k .z)))):mM _ _).sat h6
  ·intro o ho
   simp only [List.mem_cons,List.not_mem_nil,or_false] at ho
   rcases ho with rfl | rfl
   ·exact aE
   ·exact hZ
  ·refine St.JJ 0 O O Nu O O ?_
   refine St.p O O ?_
   refine St.done ?_
   refine St.slots (Γ':= [(4, .slice e.1 ss.length e.2)]) ⟨O,trivial⟩ ?_
   exact St.ends
end Go.Proofs.YtccooahdinmfmaaGreatDoor
end
