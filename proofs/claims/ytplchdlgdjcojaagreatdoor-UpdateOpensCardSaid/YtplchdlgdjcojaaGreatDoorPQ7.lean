/-
  Texts of this seat, put together: rules, walks, plain laws.
  Conditions: none.
-/
import Derived.Test.YtplchdlgdjcojaaGreatDoorPQ6
noncomputable section
namespace Go.Proofs.YtplchdlgdjcojaaGreatDoor
open Go IntKind
set_option linter.unusedVariables false
set_option linter.unusedSimpArgs false
set_option linter.unusedSectionVars false
set_option maxHeartbeats 4000000
set_option maxRecDepth 20000
theorem zNe (a i:Nat):(a / 2 ^ i)&&&1=if a.testBit i=true then 1 else 0:=by
 rw [Nat.and_one_is_mod,Nat.testBit_eq_decide_div_mod_eq]
 by_cases h:a / 2 ^ i % 2=1
 ·simp [h]
 ·have:a / 2 ^ i % 2=0:=by omega
  simp [this]
theorem zIG (o:List Int) (hl:o.length≤1000) (q:Int→Bool) (m:Int→Option (uN Int (Int ⊕ Unit))) (hm:∀ i,(hi:i<o.length)→m (i:Int)=some (bif q o[i] then .done (.inl (i:Int)) else .next (wrap .i64 ((i:Int)+1)))) (hd:m (o.length:Int)=some (.done (.inr ()))):
  (bnd (bnd (yC m 0) fun o1=>xL o1 fun _=>some (-1)) fun r1=>some (decide (r1≥0)))=some (o.any q):=by
 have key:∀ r,xL (((List.range o.length).findSome? (fun (i:Nat)=>match o[i]? with | some x=>bif q x then some (.inl (i:Int):Int ⊕ Unit) else none | none=>none)).getD (.inr ())) (fun _=>some (-1))=some r→(bnd (yC m 0) fun o1=>xL o1 fun _=>some (-1))=some r:=fun r h=>
  zBL (fun i=>(i:Int)) o.length (fun (i:Nat)=>match o[i]? with | some x=>bif q x then some (.inl (i:Int)) else none | none=>none) (.inr ()) O (fun i hi=>by
   rw [hm i hi,List.getElem?_eq_getElem hi]
   simp only
   cases q o[i]
   ·simp only [cond_false,yQ hi (by omega:o.length≤140737488355328)]
   ·rfl) hd h
 cases hf:(List.range o.length).findSome? (fun (i:Nat)=>match o[i]? with | some x=>bif q x then some (.inl (i:Int):Int ⊕ Unit) else none | none=>none) with
 | none=>
  have hn:=List.findSome?_eq_none_iff.1 hf
  have:o.any q=false:=by
   rw [List.any_eq_false]
   intro x hx
   obtain ⟨i,hi,rfl⟩:=List.mem_iff_getElem.1 hx
   have:=hn i (List.mem_range.2 hi)
   rw [List.getElem?_eq_getElem hi] at this
   cases hq:q o[i]
   ·simp
   ·simp [hq] at this
  rw [key (-1) (by rw [hf]; rfl),AA,this]
  rfl
 | some t=>
  obtain ⟨i,hi,ht⟩:=List.exists_of_findSome?_eq_some hf
  have hlt:=List.mem_range.1 hi
  rw [List.getElem?_eq_getElem hlt] at ht
  cases hq:q o[i]
  ·simp [hq] at ht
  ·simp [hq] at ht
   subst ht
   have:o.any q=true:=List.any_eq_true.2 ⟨_,List.getElem_mem hlt,hq⟩
   rw [key (i:Int) (by rw [hf]; rfl),AA,this]
   simp
theorem zJt {l:List Int} (hl:l.length≤1000) (v:Int):xU l v=some (decide (v∈l)):=by
 unfold xU qY
 refine (zIG l hl (fun y=>v==y) _ (fun i hi=>?_) ?_).trans ?_
 ·rw [decide_eq_true (by omega:(i:Int)<(l.length:Int)),cond_true,xJ hi,AA]
  cases (v==l[i]) <;> rfl
 ·rw [decide_eq_false (by omega:¬ (l.length:Int)<(l.length:Int)),cond_false]
 ·congr 1
  rw [Bool.eq_iff_iff,List.any_eq_true,decide_eq_true_eq]
  constructor
  ·rintro ⟨x,hx,h⟩
   rw [eq_of_beq h]; exact hx
  ·intro h
   exact ⟨v,h,by simp⟩
def UE (n:Nat):List Int→List Int→Option (List Int)
 | acc, []=>some acc
 | acc,x::xs=>if (n:Int)≤x∨x∈acc then none else UE n (acc++ [x]) xs
def Ai (n:Nat):List Int→Option (Int × Int × List Int)
 | p::m::r=>if p=2∨p=3 then (UE n [] r).map fun o=>(p,m,o) else none
 | _=>none
theorem zCj (n:Nat) (p m:Int) (r:List Int):Ai n (p::m::r)=if p=2∨p=3 then (UE n [] r).map fun o=>(p,m,o) else none:=rfl
theorem zLo {n:Nat}:∀ {r acc o:List Int},UE n acc r=some o→DN r→(∀ x∈acc,0≤x∧x<n)→∀ x∈o,0≤x∧x<n
 | [],acc,o,h,_,ha=>by
  injection h with h
  rw [←h]; exact ha
 | x::r,acc,o,h,hr,ha=>by
  unfold UE at h
  split at h
  ·cases h
  ·rename_i hx
   refine zLo h (fun y hy=>hr y (by simp [hy])) fun y hy=>?_
   rcases List.mem_append.1 hy with hy | hy
   ·exact ha y hy
   ·rw [List.mem_singleton.1 hy]
    have:=hr x (by simp)
    simp only [not_or] at hx
    omega
theorem zKP {n:Nat}:∀ {r acc o:List Int},UE n acc r=some o→o.length=acc.length+r.length
 | [],acc,o,h=>by injection h with h; rw [←h]; simp
 | x::r,acc,o,h=>by
  unfold UE at h
  split at h
  ·cases h
  ·rw [zKP h]; simp; omega
theorem lL {x:Int} (h:0≤x∧x≤255):wrap .i64 x=x:=zZ (by omega) (by omega)
theorem zUI {α:Type} {n:Nat} {r:List Int} (hr:DN r) (hl:r.length≤28) {bad:List Int→α} (m:Int × List Int→Option (uN (Int × List Int) (α ⊕ List Int)))
  (hm:∀ s1,m s1=bif decide (s1.1<(r.length:Int)) then (bnd (BP r s1.1) fun x3=>bnd ((bif decide ((wrap .i64 x3)≥(n:Int)) then (some true) else (bnd (xU s1.2 (wrap .i64 x3)) fun r1=>some r1):Option Bool)) fun o3=>bif o3 then (some (.done (.inl (bad s1.2)))) else (bnd (app 8 s1.2 [wrap .i64 x3]) fun l2=>some (.next (wrap .i64 (s1.1+1),l2)))) else (some (.done (.inr s1.2)))):
  ∀ (k i:Nat) (acc:List Int),i+k=r.length→acc.length≤i→∃ t,yC m ((i:Int),acc)=some t∧match UE n acc (r.drop i) with | some o=>t= .inr o | none=>∃ b,t= .inl (bad b)
 | 0,i,acc,hi,ha=>by
  obtain rfl:i=r.length:=by omega
  refine ⟨.inr acc,yR ?_,?_⟩
  ·rw [hm]
   simp only
   rw [decide_eq_false (by omega:¬ (r.length:Int)<(r.length:Int)),cond_false]
  ·rw [List.drop_length]; rfl
 | k+1,i,acc,hi,ha=>by
  have hlt:i<r.length:=by omega
  have hx:=hr _ (List.getElem_mem hlt)
  rw [List.drop_eq_getElem_cons hlt]
  unfold UE
  have hc:(bif decide ((wrap .i64 r[i])≥(n:Int)) then (some true) else (bnd (xU acc (wrap .i64 r[i])) fun r1=>some r1):Option Bool)=some (decide ((n:Int)≤r[i]∨r[i]∈acc)):=by
   rw [lL hx,zJt (by omega),AA]
   by_cases h:(n:Int)≤r[i]
   ·rw [decide_eq_true (by omega:r[i]≥(n:Int)),cond_true,decide_eq_true (.inl h)]
   ·rw [decide_eq_false (by omega:¬ r[i]≥(n:Int)),cond_false]
    congr 1
    exact decide_eq_decide.2 ⟨.inr,fun hh=>hh.resolve_left h⟩
  by_cases h:(n:Int)≤r[i]∨r[i]∈acc
  ·rw [if_pos h]
   refine ⟨.inl (bad acc),yR ?_,acc,O⟩
   rw [hm]
   simp only
   rw [decide_eq_true (by omega:(i:Int)<(r.length:Int)),cond_true,xJ hlt,AA,hc,AA,decide_eq_true h,cond_true]
  ·rw [if_neg h]
   obtain ⟨t,h1,h2⟩:=zUI hr hl m hm k (i+1) (acc++ [r[i]]) (by omega) (by simp; omega)
   refine ⟨t,xO ?_ h1,h2⟩
   rw [hm]
   simp only
   rw [decide_eq_true (by omega:(i:Int)<(r.length:Int)),cond_true,xJ hlt,AA,hc,AA,decide_eq_false h,cond_false,lL hx,vE (by simp; omega) (by simp; omega),AA,yQ hlt (by omega)]
theorem zUN {X:List zB} (h8:X.length≤8) (N:List yX) {j:List Int} (hj:DN j) (hl:j.length≤28):
  ∃ a,tY (Vf X N) j=some (a,(Ai X.length j).isSome)∧∀ p m o,Ai X.length j=some (p,m,o)→a=⟨true,X,N,p,pI,m,o⟩:=by
 match j,hj,hl with
 | [],_,_=>exact ⟨_,O,fun p m o h=>by cases h⟩
 | [p],_,_=>exact ⟨_,O,fun p m o h=>by cases h⟩
 | p::m::r,hj,hl=>
  have hp:=hj p (by simp)
  unfold tY
  have es:sub (p::m::r) 2 ((p::m::r).length:Int)=some r:=by
   unfold sub
   rw [if_pos ⟨by omega,by simp; omega,by omega⟩]
   simp only [Int.toNat_natCast,List.take_length]
   rfl
  rw [decide_eq_false (by simp; omega:¬ ((p::m::r).length:Int)<2),cond_false,show BP (p::m::r) 0=some p from O,AA,show BP (p::m::r) 1=some m from O,AA,lL hp,es]
  rw [zCj]
  by_cases hc:p=2∨p=3
  case neg=>
   rw [show (p==2||(p==3||false))=false by simpa using hc,if_neg hc]
   exact ⟨_,O,fun p m o h=>by cases h⟩
  rw [show (p==2||(p==3||false))=true by simpa using hc,if_pos hc]
  simp only [Bool.not_true,cond_false,AA]
  obtain ⟨t,h1,h2⟩:=zUI (n:=X.length) (r:=r) (fun y hy=>hj y (by simp [hy])) (by simp at hl; omega) (bad:=fun acc=>((⟨true,X,N,p,pI,m,acc⟩:zM),false)) _ (fun _=>O) r.length 0 [] (by omega) (by simp)
  rw [List.drop_zero] at h2
  cases ho:UE X.length [] r with
  | none=>
   rw [ho] at h2
   obtain ⟨b,rfl⟩:=h2
   exact ⟨_,uL h1 O,fun p m o h=>by cases h⟩
  | some o=>
   rw [ho] at h2
   simp only at h2
   subst h2
   refine ⟨_,uL h1 O,fun p' m' o' h=>?_⟩
   simp only [Option.map_some,Option.some.injEq,Prod.mk.injEq] at h
   obtain ⟨rfl,rfl,rfl⟩:=h
   rfl
theorem zOa {l:List Int} (v:Int):(List.range l.length).any (fun k=>l[k]? ==some v)=decide (v∈l):=by
 rw [Bool.eq_iff_iff,List.any_eq_true,decide_eq_true_eq]
 constructor
 ·rintro ⟨k,hk,h⟩
  rw [List.getElem?_eq_getElem (List.mem_range.1 hk)] at h
  have:=eq_of_beq h
  injection this with this
  rw [←this]; exact List.getElem_mem _
 ·intro h
  obtain ⟨k,hk,rfl⟩:=List.mem_iff_getElem.1 h
  exact ⟨k,List.mem_range.2 hk,by rw [List.getElem?_eq_getElem hk]; simp⟩
theorem zUC {α:Type} {n:Nat} {p0 m0:Int} {r:List Int} (hr:DN r) (hl:r.length≤28) {bad:List Int→α} (m:Int × List Int→Option (uN (Int × List Int) (α ⊕ List Int)))
  (hm:∀ s1,m s1=bif decide (s1.1<((p0::m0::r).length:Int)) then (bnd (BP (p0::m0::r) s1.1) fun x4=>bif decide ((wrap .i64 x4)≥(n:Int)) then (some (.done (.inl (bad s1.2)))) else (bnd (yC (τ:=α ⊕ Unit) (fun (s2:Int)=>bif decide (s2<(s1.2.length:Int)) then (bnd (BP s1.2 s2) fun x5=>bif (x5==(wrap .i64 x4)) then (some (.done (.inl (bad s1.2)))) else (some (.next (wrap .i64 (s2+1))))) else (some (.done (.inr ())))) 0) fun o4=>vz (fun r_=>(.done (.inl r_))) o4 fun o5=>bnd (app 8 s1.2 [wrap .i64 x4]) fun l1=>some (.next (wrap .i64 (s1.1+1),l1)))) else (some (.done (.inr s1.2)))):
  ∀ (k i:Nat) (acc:List Int),i+k=r.length→acc.length≤i→∃ t,yC m (((i+2:Nat):Int),acc)=some t∧match UE n acc (r.drop i) with | some o=>t= .inr o | none=>∃ b,t= .inl (bad b)
 | 0,i,acc,hi,ha=>by
  obtain rfl:i=r.length:=by omega
  refine ⟨.inr acc,yR ?_,?_⟩
  ·rw [hm]
   simp only
   rw [decide_eq_false (by simp; omega:¬ ((r.length+2:Nat):Int)<((p0::m0::r).length:Int)),cond_false]
  ·rw [List.drop_length]; rfl
 | k+1,i,acc,hi,ha=>by
  have hlt:i<r.length:=by omega
  have hx:=hr _ (List.getElem_mem hlt)
  rw [List.drop_eq_getElem_cons hlt]
  unfold UE
  have he:BP (p0::m0::r) ((i+2:Nat):Int)=some r[i]:=by rw [JY]; simp [List.getElem?_eq_getElem hlt]
  have hin:yC (τ:=α ⊕ Unit) (fun (s2:Int)=>bif decide (s2<(acc.length:Int)) then (bnd (BP acc s2) fun x5=>bif (x5==r[i]) then (some (.done (.inl (bad acc)))) else (some (.next (wrap .i64 (s2+1))))) else (some (.done (.inr ())))) 0=some (bif decide (r[i]∈acc) then .inl (bad acc) else .inr ()):=by
   rw [←zRr (yC _ _)]
   refine gW (fun q=>(q:Int)) acc.length (fun q=>acc[q]? ==some r[i]) (.inl (bad acc)) (.inr ()) O (fun q hq=>?_) ?_ ?_
   ·rw [decide_eq_true (by omega:(q:Int)<(acc.length:Int)),cond_true,xJ hq,AA,List.getElem?_eq_getElem hq,yQ hq (by omega)]
    have:(some acc[q]==some r[i])=(acc[q]==r[i]):=by simp
    rw [this]
    cases (acc[q]==r[i]) <;> rfl
   ·rw [decide_eq_false (by omega:¬ (acc.length:Int)<(acc.length:Int)),cond_false]
   ·rw [zOa]
  by_cases h1:(n:Int)≤r[i]
  ·rw [if_pos (.inl h1)]
   refine ⟨.inl (bad acc),yR ?_,acc,O⟩
   rw [hm]
   simp only
   rw [decide_eq_true (by simp; omega:((i+2:Nat):Int)<((p0::m0::r).length:Int)),cond_true,he,AA,lL hx,decide_eq_true (by omega:r[i]≥(n:Int)),cond_true]
  by_cases h2:r[i]∈acc
  ·rw [if_pos (.inr h2)]
   refine ⟨.inl (bad acc),yR ?_,acc,O⟩
   rw [hm]
   simp only
   rw [decide_eq_true (by simp; omega:((i+2:Nat):Int)<((p0::m0::r).length:Int)),cond_true,he,AA,lL hx,decide_eq_false (by omega:¬ r[i]≥(n:Int)),cond_false,hin,AA,decide_eq_true h2]
   rfl
  ·rw [if_neg (by rintro (h | h); exact h1 h; exact h2 h)]
   obtain ⟨t,q1,q2⟩:=zUC hr hl m hm k (i+1) (acc++ [r[i]]) (by omega) (by simp; omega)
   refine ⟨t,xO ?_ q1,q2⟩
   rw [hm]
   simp only
   rw [decide_eq_true (by simp; omega:((i+2:Nat):Int)<((p0::m0::r).length:Int)),cond_true,he,AA,lL hx,decide_eq_false (by omega:¬ r[i]≥(n:Int)),cond_false,hin,AA,decide_eq_false h2]
   simp only [cond_false,vz]
   rw [vE (by simp; omega) (by simp; omega),AA,show ((i+2:Nat):Int)+1=((i+1+2:Nat):Int) by omega,xP (by omega)]
theorem zUJ {X:List zB} (h8:X.length≤8) (N:List yX) {j:List Int} (hj:DN j) (hl:j.length≤28):
  ∃ a,uP (Vg X N) j=some (a,(Ai X.length j).isSome)∧∀ p m o,Ai X.length j=some (p,m,o)→a=⟨true,X,N,p,pI,m,o⟩:=by
 match j,hj,hl with
 | [],_,_=>exact ⟨_,O,fun p m o h=>by cases h⟩
 | [p],_,_=>exact ⟨_,O,fun p m o h=>by cases h⟩
 | p::m::r,hj,hl=>
  have hp:=hj p (by simp)
  have hm:=hj m (by simp)
  unfold uP
  rw [decide_eq_false (by simp; omega:¬ ((p::m::r).length:Int)<2),cond_false,show BP (p::m::r) 0=some p from O,AA,show BP (p::m::r) 1=some m from O]
  rw [zCj]
  by_cases hc:p=2∨p=3
  case neg=>
   have h2:p≠2∧p≠3:=by simpa using hc
   rw [yF (by simpa using h2.1),show (p != 3)=true by simpa using h2.2,if_neg hc]
   exact ⟨_,O,fun p m o h=>by cases h⟩
  have hb:(bif (p != 2) then (some (p != 3)) else (some false):Option Bool)=some false:=by
   rcases hc with rfl | rfl <;> rfl
  rw [hb,AA,if_pos hc]
  simp only [cond_false,AA]
  rw [lL hp,lL hm]
  obtain ⟨t,h1,h2⟩:=zUC (n:=X.length) (p0:=p) (m0:=m) (r:=r) (fun y hy=>hj y (by simp [hy])) (by simp at hl; omega) (bad:=fun acc=>((⟨true,X,N,p,pI,m,acc⟩:zY),false)) _ (fun _=>O) r.length 0 [] (by omega) (by simp)
  rw [List.drop_zero] at h2
  cases ho:UE X.length [] r with
  | none=>
   rw [ho] at h2
   obtain ⟨b,rfl⟩:=h2
   exact ⟨_,uL h1 O,fun p m o h=>by cases h⟩
  | some o=>
   rw [ho] at h2
   simp only at h2
   subst h2
   refine ⟨_,uL h1 O,fun p' m' o' h=>?_⟩
   simp only [Option.map_some,Option.some.injEq,Prod.mk.injEq] at h
   obtain ⟨rfl,rfl,rfl⟩:=h
   rfl
def NV (X:List zB) (m x:Int):Bool:=match X[x.toNat]? with
 | some d=>d.Active != if m.toNat.testBit x.toNat=true then 1 else 0
 | none=>false
theorem zUU {X:List zB} (h8:X.length≤8) {N:List yX} {p m x:Int} {o:List Int} (hm:0≤m∧m≤255) (hx:0≤x∧x<X.length):vY ⟨true,X,N,p,pI,m,o⟩ x=some (NV X m x):=by
 obtain ⟨i,rfl⟩:∃ i:Nat,x=(i:Int):=⟨x.toNat,by omega⟩
 obtain ⟨k,rfl⟩:∃ k:Nat,m=(k:Int):=⟨m.toNat,by omega⟩
 have hi:i<X.length:=by omega
 unfold vY NV
 rw [xJ hi,AA,zPb (show i≤8 by omega),AA,Int.toNat_natCast,Int.toNat_natCast,List.getElem?_eq_getElem hi]
 have h1:k / 2 ^ i<256:=Nat.lt_of_le_of_lt (Nat.div_le_self _ _) (by omega)
 rw [show (1:Int)=((1:Nat):Int) from O,Zv h1 (by decide),zNe]
 simp only
 split <;> rfl
theorem zVE {X:List zB} (h8:X.length≤8) {N:List yX} {p m x:Int} {o:List Int} (hm:0≤m∧m≤255) (hx:0≤x∧x<X.length):rD ⟨true,X,N,p,pI,m,o⟩ x=some (NV X m x):=by
 obtain ⟨i,rfl⟩:∃ i:Nat,x=(i:Int):=⟨x.toNat,by omega⟩
 obtain ⟨k,rfl⟩:∃ k:Nat,m=(k:Int):=⟨m.toNat,by omega⟩
 have hi:i<X.length:=by omega
 unfold rD NV
 have hw:wrap .u64 (i:Int)=(i:Int):=by
  have:∀ n:Nat,n<8→wrap .u64 (n:Int)=(n:Int):=by decide
  exact this i (by omega)
 rw [xJ hi,AA,hw,zPb (show i≤64 by omega),AA,Int.toNat_natCast,Int.toNat_natCast,List.getElem?_eq_getElem hi]
 have h1:k / 2 ^ i<256:=Nat.lt_of_le_of_lt (Nat.div_le_self _ _) (by omega)
 rw [show (1:Int)=((1:Nat):Int) from O,zPh (by omega) (by decide),zNe]
 simp only
 split <;> rfl
def stay (X:List zB) (p m:Int) (o:List Int):Bool:=bif p==3 then o.any (NV X m) else o.any fun x=>!NV X m x
theorem zUm {X:List zB} (h8:X.length≤8) {N:List yX} {p m:Int} {o:List Int} (hm:0≤m∧m≤255) (ho:∀ x∈o,0≤x∧x<X.length) (hl:o.length≤28):qU ⟨true,X,N,p,pI,m,o⟩=some ((o.filter (NV X m)).length:Int):=by
 unfold qU
 refine wH (fun i=>((((o.take i).filter (NV X m)).length:Int),(i:Int))) o.length ((o.filter (NV X m)).length:Int) O (fun i hi=>?_) ?_ O
 ·simp only
  rw [decide_eq_true (by omega:(i:Int)<(o.length:Int)),cond_true,xJ hi,AA,zVE h8 hm (ho _ (List.getElem_mem hi)),AA,yQ hi (by omega),xY hi,List.filter_append]
  have hle:((o.take i).filter (NV X m)).length≤28:=Nat.le_trans (List.length_filter_le _ _) (by simp; omega)
  cases hc:NV X m o[i]
  ·rw [cond_false]; simp [hc]
  ·rw [cond_true]
   simp only [List.length_append,List.filter_cons,hc,if_true,List.filter_nil,List.length_singleton]
   rw [zZ (by omega) (by omega)]
   rfl
 ·simp only
  rw [decide_eq_false (by omega:¬ (o.length:Int)<(o.length:Int)),cond_false,List.take_length]
theorem zUK {X:List zB} (h8:X.length≤8) {N:List yX} {p m:Int} {o:List Int} (hm:0≤m∧m≤255) (ho:∀ x∈o,0≤x∧x<X.length) (hl:o.length≤28) (s:zE) (d:zA):
  vD ⟨true,X,N,p,pI,m,o⟩ s d=bif stay X p m o then some (⟨true,X,N,p,pI,m,o⟩,s,d,0) else bnd (yT s [⟨32, [],true⟩] d) fun r=>bif r.2.2 != 0 then some (⟨true,X,N,p,pI,m,o⟩,r.1,r.2.1,r.2.2) else some (⟨true,X,N,0,pI,m, []⟩,r.1,r.2.1,0):=by
 unfold vD stay
 have hend:sW ⟨true,X,N,p,pI,m,o⟩ s d=bnd (yT s [⟨32, [],true⟩] d) fun r=>bif r.2.2 != 0 then some (⟨true,X,N,p,pI,m,o⟩,r.1,r.2.1,r.2.2) else some (⟨true,X,N,0,pI,m, []⟩,r.1,r.2.1,0):=by
  unfold sW pG
  rw [show nD true=some true from O,AA]
  cases yT s [⟨32, [],true⟩] d with
  | none=>rfl
  | some r=>rfl
 have e1:xZ o ⟨true,X,N,p,pI,m,o⟩=some (o.any (NV X m)):=by
  unfold xZ vX
  refine zIG o (by omega) _ _ (fun i hi=>?_) ?_
  ·rw [decide_eq_true (by omega:(i:Int)<(o.length:Int)),cond_true,xJ hi,AA,zUU h8 hm (ho _ (List.getElem_mem hi)),AA]
   cases NV X m o[i] <;> rfl
  ·rw [decide_eq_false (by omega:¬ (o.length:Int)<(o.length:Int)),cond_false]
 have e2:xW o ⟨true,X,N,p,pI,m,o⟩=some (o.any fun x=>!NV X m x):=by
  unfold xW wN
  refine zIG o (by omega) _ _ (fun i hi=>?_) ?_
  ·rw [decide_eq_true (by omega:(i:Int)<(o.length:Int)),cond_true,xJ hi,AA]
   unfold qL
   rw [zUU h8 hm (ho _ (List.getElem_mem hi)),AA,AA]
   cases NV X m o[i] <;> rfl
  ·rw [decide_eq_false (by omega:¬ (o.length:Int)<(o.length:Int)),cond_false]
 have eta:∀ (x:Option (zM × zE × zA × Int)),(bnd x fun r2=>some (r2.1,r2.2.1,r2.2.2.1,r2.2.2.2))=x:=fun x=>by cases x <;> rfl
 simp only
 rw [e1,e2,AA,AA,hend,eta]
 cases (p==3) <;> rfl
theorem zUz {X:List zB} (h8:X.length≤8) {N:List yX} {p m:Int} {o:List Int} (hp:p=2∨p=3) (hm:0≤m∧m≤255) (ho:∀ x∈o,0≤x∧x<X.length) (hl:o.length≤28) (s:zH) (f:yD):
  sR ⟨true,X,N,p,pI,m,o⟩ s f=bif stay X p m o then some (⟨true,X,N,p,pI,m,o⟩,s,f,0) else bnd (xA s [⟨32, [],true⟩] f) fun r=>bif r.2.2 != 0 then some (⟨true,X,N,p,pI,m,o⟩,r.1,r.2.1,r.2.2) else some (⟨true,X,N,0,pI,m, []⟩,r.1,r.2.1,0):=by
 unfold sR stay
 rw [zUm h8 hm ho hl,AA]
 have h1:decide (((o.filter (NV X m)).length:Int)<(o.length:Int))=o.any fun x=>!NV X m x:=by
  rw [Bool.eq_iff_iff,decide_eq_true_eq,List.any_eq_true]
  have:=List.length_filter_lt_length_iff_exists (l:=o) (p:=NV X m)
  constructor
  ·intro h
   obtain ⟨x,hx,hq⟩:=this.1 (by omega)
   exact ⟨x,hx,by simpa using hq⟩
  ·rintro ⟨x,hx,hq⟩
   have:=this.2 ⟨x,hx,by simpa using hq⟩
   omega
 have h2:decide (((o.filter (NV X m)).length:Int)>0)=o.any (NV X m):=by
  rw [Bool.eq_iff_iff,decide_eq_true_eq,List.any_eq_true]
  have:=List.length_filter_pos_iff (l:=o) (p:=NV X m)
  constructor
  ·intro h
   exact this.1 (by omega)
  ·intro h
   have:=this.2 h
   omega
 simp only
 rw [h1,h2]
 rcases hp with rfl | rfl
 ·simp only [show ((2:Int)==2)=true from O,show ((2:Int)==3)=false from O,cond_true,cond_false]
  cases (o.any fun x=>!NV X m x) <;> rfl
 ·simp only [show ((3:Int)==2)=false from O,show ((3:Int)==3)=true from O,cond_true,cond_false]
  cases (o.any (NV X m)) <;> rfl
theorem zNz {X:List zB} (h8:X.length≤8) (N:List yX) {s:zE} {r:zH} {d:zA} {f:yD} {v:Option (List Int)}
  (g1:vQ s 32=some (v.getD [],v.isSome)) (g2:tK r 32=some (v.getD [],v.isSome)) (hv:∀ j,v=some j→DN j∧j.length≤28)
  (hU:∃ s' d' r' f' e,yT s [⟨32, [],true⟩] d=some (s',d',e)∧xA r [⟨32, [],true⟩] f=some (r',f',e)):
  (∃ s1 d1 r1 f1 e,e≠0∧Vh (Vf X N) s d=some (s1,d1,none,e)∧Vj (Vg X N) r f=some (r1,f1,none,e))∨
   ∃ s1 d1 r1 f1 p m o,p≠1∧Vh (Vf X N) s d=some (s1,d1,some ⟨true,X,N,p,pI,m,o⟩,0)∧Vj (Vg X N) r f=some (r1,f1,some ⟨true,X,N,p,pI,m,o⟩,0):=by
 unfold Vh Vj
 rw [g1,g2,AA,AA]
 cases hj:v with
 | none=>exact .inr ⟨_,_,_,_,0,0, [],by decide,rfl,rfl⟩
 | some j=>
  obtain ⟨q1,q2⟩:=hv j hj
  obtain ⟨a,a1,a2⟩:=zUN h8 N q1 q2
  obtain ⟨b,b1,b2⟩:=zUJ h8 N q1 q2
  simp only [Option.getD_some,Option.isSome_some,Bool.not_true,cond_false]
  rw [a1,b1,AA,AA]
  cases hr:Ai X.length j with
  | none=>exact .inl ⟨_,_,_,_,6,by decide,rfl,rfl⟩
  | some t=>
   obtain ⟨p,m,o⟩:=t
   obtain rfl:=a2 p m o hr
   obtain rfl:=b2 p m o hr
   have MV:(p=2∨p=3)∧(0≤m∧m≤255)∧(∀ x∈o,0≤x∧x<X.length)∧o.length≤28:=by
    match j,q1,q2,hr with
    | [],_,_,hr=>cases hr
    | [_],_,_,hr=>cases hr
    | p'::m'::l,q1,q2,hr=>
     rw [zCj] at hr
     split at hr
     ·rename_i hp
      obtain ⟨o',ho,he⟩:=Option.map_eq_some_iff.1 hr
      simp only [Prod.mk.injEq] at he
      obtain ⟨rfl,rfl,rfl⟩:=he
      have:=zKP ho
      simp at this q2
      exact ⟨hp,q1 _ (by simp),zLo ho (fun y hy=>q1 y (by simp [hy])) (fun x hx=>by cases hx),by omega⟩
     ·cases hr
   obtain ⟨k1,k2,k3,k4⟩:=MV
   simp only [Option.isSome_some,Bool.not_true,cond_false]
   rw [zUK h8 k2 k3 k4,zUz h8 k1 k2 k3 k4]
   cases stay X p m o
   ·simp only [cond_false]
    obtain ⟨s',d',r',f',e,u1,u2⟩:=hU
    rw [u1,u2,AA,AA]
    by_cases he:e=0
    ·subst he
     exact .inr ⟨s',d',r',f',0,m, [],by decide,rfl,rfl⟩
    ·simp only
     rw [yF (by simpa using he),yF (by simpa using he)]
     simp only [AA]
     rw [yF (by simpa using he),yF (by simpa using he)]
     exact .inl ⟨s',d',r',f',e,he,O,O⟩
   ·exact .inr ⟨s,d,r,f,p,m,o,by omega,O,O⟩
def spl (l:List Int) (i:Nat) (w:List Int):List Int:=l.take i++w++l.drop (i+w.length)
theorem bW {l:List Int} {i:Nat} {w:List Int} (h:i+w.length≤l.length):(spl l i w).length=l.length:=by
 simp only [spl,List.length_append,List.length_take,List.length_drop]
 omega
theorem oW {l:List Int} {i:Nat} {w:List Int} (h:i+w.length≤l.length) (j:Nat):(spl l i w)[j]? =if j<i then l[j]? else if j<i+w.length then w[j - i]? else l[j]?:=by
 unfold spl
 have h1:(l.take i).length=i:=by rw [List.length_take]; omega
 by_cases c1:j<i
 ·rw [if_pos c1,List.append_assoc,List.getElem?_append_left (by omega),List.getElem?_take,if_pos c1]
 ·rw [if_neg c1,List.append_assoc,List.getElem?_append_right (by omega),h1]
  by_cases c2:j<i+w.length
  ·rw [if_pos c2,List.getElem?_append_left (by omega)]
  ·rw [if_neg c2,List.getElem?_append_right (by omega),List.getElem?_drop]
   congr 1
   omega
theorem zMC (l:List Int) (i:Nat):spl l i []=l:=by simp [spl]
theorem zRz {l:List Int} {i:Nat} (h:i<l.length) (x:Int):l.set i x=spl l i [x]:=by
 apply List.ext_getElem?
 intro j
 rw [oW (by simp; omega),List.getElem?_set]
 by_cases c:i=j
 ·subst c
  rw [if_pos O,if_pos h,if_neg (by omega),if_pos (by simp)]
  simp
 ·rw [if_neg c]
  by_cases c1:j<i
  ·rw [if_pos c1]
  ·rw [if_neg c1,if_neg (by simp; omega)]
theorem zKL {l:List Int} {i:Nat} {w:List Int} (x:Int) (h:i+1+w.length≤l.length):spl (l.set i x) (i+1) w=spl l i (x::w):=by
 apply List.ext_getElem?
 intro j
 rw [oW (by simp; omega),oW (by simp; omega),List.getElem?_set]
 simp only [List.length_cons]
 by_cases c1:j<i
 ·rw [if_pos (by omega),if_neg (by omega),if_pos c1]
 ·rw [if_neg c1]
  by_cases c2:i=j
  ·subst c2
   rw [if_pos (by omega),if_pos O,if_pos (by omega),if_pos (by omega),Nat.sub_self]
   rfl
  ·rw [if_neg (by omega)]
   by_cases c3:j<i+1+w.length
   ·rw [if_pos c3,if_pos (by omega),show j - i=(j - (i+1))+1 by omega,List.getElem?_cons_succ]
   ·rw [if_neg c3,if_neg c2,if_neg (by omega)]
def Vz (l:List Int) (i n:Nat):Prop:=∀ j,i≤j→j<i+n→l[j]? =some 255
theorem zFW:∀ (b:List Int) (d:zA) (i:Nat),FV d→d.down=false→DN b→i+b.length≤d.bytes.length→Vz d.bytes i b.length→
  ((qN d i b).2=0∧(qN d i b).1.bytes=spl d.bytes i b∧(qN d i b).1.down=false)∨
  ((qN d i b).2=10∧(qN d i b).1.down=true∧∃ k,k<b.length∧(qN d i b).1.bytes=spl d.bytes i (b.take k++ [FK .u8 (b.getD k 0) d.BQ]))
 | [],d,i,h,hd,_,_,_=>.inl ⟨O,(zMC _ _).symm,hd⟩
 | x::b,d,i,h,hd,hr,hl,he=>by
  have hx:=hr x (by simp)
  simp only [List.length_cons] at hl he
  have aCX:d.bytes.getD i 0=255:=by
   rw [List.getD_eq_getElem?_getD,he i (Nat.le_refl _) (by omega)]
   rfl
  unfold qN
  rw [aCX]
  by_cases hf:(yP d).2=true
  ·rw [if_pos hf]
   right
   refine ⟨O,?_,0,by simp,?_⟩
   ·show (yP d).1.down=true
    rw [bM hd,hf]
   ·show (yP d).1.bytes.set i _=_
    rw [xS,zQl (Md hx h.BQ),zRz (by omega)]
    rfl
  ·rw [if_neg hf,zQl hx]
   have hf':(yP d).2=false:=by simpa using hf
   have hb1:(NU (yP d).1 i x).bytes=d.bytes.set i x:=by show (yP d).1.bytes.set i x=_; rw [xS]
   have ht1:(NU (yP d).1 i x).BQ=d.BQ:=sT d
   have ih:=zFW b (NU (yP d).1 i x) (i+1) (Me (iA h) i hx) (by show (yP d).1.down=false; rw [bM hd,hf']) (fun y hy=>hr y (by simp [hy])) (by rw [hb1]; simp; omega) (fun j h1 h2=>by
    rw [hb1,List.getElem?_set,if_neg (by omega)]
    exact he j (by omega) (by omega))
   rw [hb1,ht1] at ih
   rcases ih with ⟨h1,h2,h3⟩ | ⟨h1,h2,k,hk,h3⟩
   ·exact .inl ⟨h1,by rw [h2,zKL x (by omega)],h3⟩
   ·refine .inr ⟨h1,h2,k+1,by simp; omega,?_⟩
    rw [h3,zKL x (by simp; omega)]
    rfl
theorem zGW {b:List Int} {d:zA} {i:Nat} (h:FV d) (hd:d.down=false) (hr:DN b) (hl:i+b.length≤d.bytes.length) (he:Vz d.bytes i b.length):
  ((zW d (i:Int) b).2=0∧(zW d (i:Int) b).1.bytes=spl d.bytes i b∧(zW d (i:Int) b).1.down=false)∨
  ((zW d (i:Int) b).2=10∧(zW d (i:Int) b).1.down=true∧∃ k,k<b.length∧(zW d (i:Int) b).1.bytes=spl d.bytes i (b.take k++ [FK .u8 (b.getD k 0) d.BQ])):=by
 unfold zW
 rw [if_neg (by simp [hd]),if_pos ⟨by omega,by omega,by omega,by omega⟩]
 exact zFW b d i h hd hr hl he
theorem zPw {b:List Int} {x:zD} {n:Nat} (hr:DN b) (h:SH b=some (x,n)) (q:List Int):SH (b.take n++q)=some (x,n):=by
 match b,h with
 | k::c::r,h=>
  have hc:=hr c (by simp)
  rw [lH] at h
  split at h
  ·rename_i h1
   injection h with h; injection h with h0 h3; subst h0; subst h3
   show SH (k::c::([]++q))=_
   rw [lH,if_pos h1]
  ·rename_i h1
   split at h
   ·cases h
   ·rename_i h2
    injection h with h; injection h with h0 h3; subst h0; subst h3
    have e:(k::c::r).take (2+c.toNat)++q=k::c::(r.take c.toNat++q):=by
     rw [Nat.add_comm]; rfl
    have hl:(r.take c.toNat).length=c.toNat:=by rw [List.length_take]; omega
    rw [e,lH,if_neg h1,if_neg (by rw [List.length_append,hl]; omega),List.take_append_of_le_length (by omega),List.take_of_length_le (by omega)]
theorem zCn {b:List Int} (n m:Nat):b.take (n+m)=b.take n++(b.drop n).take m:=by rw [List.take_add]
theorem zHP:∀ (c:Nat) {b:List Int} {l:List zD} {n:Nat},DN b→oX c b=some (l,n)→∀ q,oX c (b.take n++q)=some (l,n)
 | 0,b,l,n,_,h,q=>by injection h with h; injection h with h1 h2; subst h1; subst h2; rfl
 | c+1,b,l,n,hr,h,q=>by
  unfold oX at h
  split at h
  ·cases h
  ·rename_i x k hk
   split at h
   ·cases h
   ·rename_i l' m hm
    injection h with h; injection h with h1 h2
    subst h1; subst h2
    have hk2:=Nh hr hk
    have h3:=zPw hr hk ((b.drop k).take m++q)
    have h4:=zHP c (hr.drop k) hm q
    unfold oX
    rw [zCn,List.append_assoc,h3]
    have e:(b.take k++((b.drop k).take m++q)).drop k=(b.drop k).take m++q:=by
     rw [List.drop_append_of_le_length (by rw [List.length_take]; omega),List.drop_eq_nil_of_le (by rw [List.length_take]; omega)]
     rfl
    simp only
    rw [e,h4]
theorem zFS {b:List Int} {l:List zD} {n:Nat} (hr:DN b) (h:tR b=some (l,n)) (q:List Int):tR (b.take n++q)=some (l,n):=by
  match b,h with
  | c::r,h=>
    have hr':DN r:=fun y hy=>hr y (by simp [hy])
    rw [rL] at h
    split at h
    · cases h
    · rename_i h1
      split at h
      · cases h
      · rename_i l' m hm
        split at h
        · rename_i h0
          injection h with h; injection h with h2 h3
          subst h2; subst h3
          have hml:=(List.getElem?_eq_some_iff.1 h0).1
          have e:(c::r).take (m+2)++q=c::(r.take m++((r.drop m).take 1++q)):=by
            show c::(r.take (m+1)++q)=_
            rw [zCn,List.append_assoc]
          rw [e,rL,if_neg h1,zHP _ hr' hm]
          simp only
          have hl:(r.take m).length=m:=by rw [List.length_take]; omega
          rw [if_pos]
          rw [List.getElem?_append_right (by omega),hl,Nat.sub_self]
          have:(r.drop m).take 1= [r[m]]:=by
            rw [←List.getElem_cons_drop (h:=hml)]
            rfl
          rw [this]
          rw [List.getElem?_eq_getElem hml] at h0
          exact h0
        · cases h
theorem zOX {x:zD} (h:PY x) (q:List Int):SH (kX x++q)=some (x,(kX x).length):=by
 obtain ⟨k,v,dl⟩:=x
 have hl:=h.len
 simp only at hl
 unfold kX
 cases dl
 ·have hw:wrap .u8 (v.length:Int)=(v.length:Int):=bN (by omega) (by omega)
  rw [if_neg (by simp)]
  show SH (k::wrap .u8 (v.length:Int)::(v++q))=_
  rw [lH,hw,if_neg (by omega),if_neg (by rw [List.length_append]; omega)]
  have e:((v.length:Int)).toNat=v.length:=rfl
  rw [e,List.take_left]
  congr 2
  simp
  omega
 ·have hv:v= []:=h.del O
  subst hv
  rfl
theorem zIp:∀ {l:List zD},(∀ x∈l,PY x)→∀ q,oX l.length (l.flatMap kX++q)=some (l,(l.flatMap kX).length)
 | [],_,_=>rfl
 | x::l,h,q=>by
  have h1:=zOX (h x (by simp)) (l.flatMap kX++q)
  have h2:=zIp (l:=l) (fun y hy=>h y (by simp [hy])) q
  show oX (l.length+1) _=_
  unfold oX
  rw [List.flatMap_cons,List.append_assoc,h1]
  simp only
  rw [List.drop_left,h2]
  simp
theorem zBT {l:List zD} (h1:1≤l.length) (h2:l.length≤32) (h:∀ x∈l,PY x) (q:List Int):tR (xI l++q)=some (l,(xI l).length):=by
 have hw:wrap .u8 (l.length:Int)=(l.length:Int):=bN (by omega) (by omega)
 have e:xI l++q=(l.length:Int)::(l.flatMap kX++(0::q)):=by
  unfold xI
  rw [hw]
  simp
 have e2:((l.length:Int)).toNat=l.length:=rfl
 rw [e,rL,if_neg (by omega),e2,zIp h]
 simp only
 rw [if_pos (by rw [List.getElem?_append_right (Nat.le_refl _),Nat.sub_self]; rfl)]
 unfold xI
 simp
theorem zDu (j:Nat):tR (List.replicate j 255)=none:=by
 cases j with
 | zero=>rfl
 | succ j=>
  rw [List.replicate_succ,rL,if_pos (.inr (by decide))]
theorem zKg {b:List Int} {l:List zD} {n:Nat} (hr:DN b) (h:tR b=some (l,n)):b[n - 1]? =some 0:=by
 have hn:=qJ hr h
 match b,h with
 | c::r,h=>
  rw [rL] at h
  split at h
  ·cases h
  ·split at h
   ·cases h
   ·rename_i l' m hm
    split at h
    ·rename_i h0
     injection h with h; injection h with h2 h3
     subst h3
     exact h0
    ·cases h
theorem zJH {l:List zD} (h1:1≤l.length) (h2:l.length≤32) (h:∀ x∈l,PY x) {k j:Nat} {t:Int} (ht:0≤t∧t≤255) (hk:k<(xI l).length) (hne:k+1<(xI l).length∨t≠0):
  tR ((xI l).take k++ [FK .u8 ((xI l).getD k 0) t]++List.replicate j 255)=none:=by
 have her:=nJ h2 h
 have hgr:=her.get k
 have hyr:=Md hgr ht
 have htl:((xI l).take k).length=k:=by rw [List.length_take]; omega
 have rq:DN ((xI l).take k++ [FK .u8 ((xI l).getD k 0) t]++List.replicate j 255):=((her.take k).app (DN.cons hyr DN.nil)).app (DN.rep (by decide))
 cases hb:tR ((xI l).take k++ [FK .u8 ((xI l).getD k 0) t]++List.replicate j 255) with
 | none=>rfl
 | some p=>
  exfalso
  obtain ⟨l',n⟩:=p
  have hn:=qJ rq hb
  have hz:=zKg rq hb
  have key:∀ w:List Int,((xI l).take k++ [FK .u8 ((xI l).getD k 0) t]++List.replicate j 255).take n=(xI l).take n→False:=fun w hw=>by
   have:=zFS rq hb ((xI l).drop n)
   rw [hw,List.take_append_drop] at this
   have h3:=zBT h1 h2 h []
   rw [List.append_nil,this] at h3
   injection h3 with h3; injection h3 with _ h3
   -- the whole Nv would have been read
   have h4:n≤k+1:=by
    rcases Nat.lt_or_ge (n - 1) (k+1) with hlt | hge
    ·omega
    ·exfalso
     rw [List.getElem?_append_right (by simp; omega),List.getElem?_replicate] at hz
     split at hz
     ·injection hz with hz
      cases hz
     ·cases hz
   have h5:k+1=(xI l).length:=by omega
   rcases hne with hne | hne
   ·omega
   ·have h6:n - 1=k:=by omega
    rw [h6,List.append_assoc,List.getElem?_append_right (by omega),htl,Nat.sub_self] at hz
    injection hz with hz
    exact hne ((or_zero hgr ht).1 hz).2
  rcases Nat.lt_or_ge (n - 1) k with hlt | hge
  ·refine key [] ?_
   rw [List.append_assoc,List.take_append_of_le_length (by omega),List.take_take,Nat.min_eq_left (by omega)]
  ·rcases Nat.lt_or_ge k (n - 1) with hlt2 | aUI
   ·rw [List.getElem?_append_right (by simp; omega),List.getElem?_replicate] at hz
    split at hz
    ·injection hz with hz
     cases hz
    ·cases hz
   ·have h6:n - 1=k:=by omega
    rw [h6,List.append_assoc,List.getElem?_append_right (by omega),htl,Nat.sub_self] at hz
    injection hz with hz
    have hoz:=(or_zero hgr ht).1 hz
    refine key [] ?_
    have h7:n=k+1:=by omega
    have e1:(xI l)[k]? =some 0:=by
     have:=hoz.1
     rw [List.getD_eq_getElem?_getD,List.getElem?_eq_getElem hk] at this
     rw [List.getElem?_eq_getElem hk]
     exact congrArg some this
    have e2:(xI l)[k]=0:=by
     rw [List.getElem?_eq_getElem hk] at e1
     injection e1
    rw [h7,xY hk,e2,hz,List.take_append_of_le_length (by simp; omega),List.take_of_length_le (by simp; omega)]
theorem zNG:∀ (f:Nat) {b:List Int} (K:List zD) (t:Nat),b.length≤f→DN b→∀ q,DN q→rR (b.take ((rR b K t).2 - t)++q) K t=rR q (rR b K t).1 (rR b K t).2:=by
 intro f
 induction f with
 | zero=>
  intro b K t hf hr q hq
  have:b= []:=List.eq_nil_of_length_eq_zero (by omega)
  subst this
  have e:rR [] K t=(K,t):=rfl
  rw [e]
  simp
 | succ f ih=>
  intro b K t hf hr q hq
  rw [kT hr]
  cases hb:tR b with
  | none=>simp
  | some p=>
   obtain ⟨l,n⟩:=p
   have hn:=qJ hr hb
   simp only
   split
   ·simp
   ·rename_i h32
    have ih:=ih (wC K l) (t+n) (b:=b.drop n) (by simp; omega) (hr.drop n) q hq
    have hge:t+n≤(rR (b.drop n) (wC K l) (t+n)).2:=by
     have:∀ (f:Nat) (b:List Int) (K:List zD) (t:Nat),t≤(eD f b K t).2:=by
      intro f
      induction f with
      | zero=>intro b K t; exact Nat.le_refl _
      | succ f ih=>
       intro b K t
       unfold eD
       cases tR b with
       | none=>exact Nat.le_refl _
       | some p=>
        obtain ⟨l,n⟩:=p
        simp only
        split
        ·exact Nat.le_refl _
        ·have:=ih (b.drop n) (wC K l) (t+n)
         omega
     exact this _ _ _ _
    obtain ⟨m,hm⟩:∃ m,(rR (b.drop n) (wC K l) (t+n)).2=t+n+m:=⟨(rR (b.drop n) (wC K l) (t+n)).2 - (t+n),by omega⟩
    rw [hm] at ih ⊢
    have e1:t+n+m - t=n+m:=by omega
    have e2:t+n+m - (t+n)=m:=by omega
    rw [e2] at ih
    rw [e1,zCn,List.append_assoc]
    have hr2:DN (b.take n++((b.drop n).take m++q)):=(hr.take n).app (((hr.drop n).take m).app hq)
    rw [kT hr2,zFS hr hb]
    simp only
    rw [if_neg h32]
    have e3:(b.take n++((b.drop n).take m++q)).drop n=(b.drop n).take m++q:=by
     rw [List.drop_append_of_le_length (by rw [List.length_take]; omega),List.drop_eq_nil_of_le (by rw [List.length_take]; omega)]
     rfl
    rw [e3]
    exact ih
def aQ (b0 b1:List Int):OS:=pick (pick os0 0 b0) 1 b1
theorem oH (d:zA) (f:Nat):DK d f=aQ (yZ d f) (yZ d (f+1)):=rfl
theorem mH {b:List Int} {g:Int} {K:List zD} {t:Nat} (h:tV b=some (g,K,t)):1≤g∧g≤2147483648∧g=gL b∧b.getD 4 0=0∧rR (b.drop 5) [] 5=(K,t):=by
 unfold tV at h
 split at h
 ·cases h
 ·rename_i hn
  simp only [not_or,Classical.not_not] at hn
  injection h with h; injection h with h1 h2
  exact ⟨by omega,by omega,h1.symm,by omega,h2⟩
def UJ (i:Int) (b:List Int) (g:Int) (K:List zD) (t:Nat):OS:=⟨i,g,K,(t:Int),vT (b.drop t)⟩
theorem Aj {b0 b1:List Int} {g:Int} {K:List zD} {t:Nat} (h0:tV b0=some (g,K,t)) (h1:∀ p,tV b1=some p→p.1≤g):aQ b0 b1=UJ 0 b0 g K t:=by
 have hg:=(mH h0).1
 have e:pick os0 0 b0=UJ 0 b0 g K t:=by
  unfold pick
  rw [h0]
  exact if_pos (show g>(0:Int) by omega)
 unfold aQ
 rw [e]
 unfold pick
 cases hb:tV b1 with
 | none=>rfl
 | some p=>
  obtain ⟨g',K',t'⟩:=p
  have:=h1 _ hb
  exact if_neg (show ¬ g'>g by simp only at this; omega)
theorem Nw {b0 b1:List Int} {g:Int} {K:List zD} {t:Nat} (h1:tV b1=some (g,K,t)) (h0:∀ p,tV b0=some p→p.1<g):aQ b0 b1=UJ 1 b1 g K t:=by
 have hg:=(mH h1).1
 have e:(pick os0 0 b0).gen<g:=by
  unfold pick
  cases hb:tV b0 with
  | none=>show (0:Int)<g; omega
  | some p=>
   obtain ⟨g',K',t'⟩:=p
   have:=h0 _ hb
   simp only at this ⊢
   split
   ·exact this
   ·show (0:Int)<g; omega
 unfold aQ
 rw [show pick (pick os0 0 b0) 1 b1=if g>(pick os0 0 b0).gen then UJ 1 b1 g K t else pick os0 0 b0 by
  conv=>lhs; unfold pick
  rw [h1]
  rfl]
 exact if_pos e
theorem zGy {b0 b1:List Int} (h0:tV b0=none) (h1:tV b1=none):aQ b0 b1=os0:=by
 unfold aQ pick
 rw [h0,h1]
theorem jI (b0 b1:List Int):(tV b0=none∧tV b1=none∧aQ b0 b1=os0)∨
  (∃ g K t,tV b0=some (g,K,t)∧(∀ p,tV b1=some p→p.1≤g)∧aQ b0 b1=UJ 0 b0 g K t)∨
  ∃ g K t,tV b1=some (g,K,t)∧(∀ p,tV b0=some p→p.1<g)∧aQ b0 b1=UJ 1 b1 g K t:=by
 cases h0:tV b0 with
 | none=>
  cases h1:tV b1 with
  | none=>exact .inl ⟨O,O,zGy h0 h1⟩
  | some p=>
   obtain ⟨g,K,t⟩:=p
   exact .inr (.inr ⟨g,K,t,O,fun p hp=>(by cases hp),Nw h1 fun p hp=>by rw [h0] at hp; cases hp⟩)
 | some p0=>
  obtain ⟨g0,K0,t0⟩:=p0
  cases h1:tV b1 with
  | none=>exact .inr (.inl ⟨g0,K0,t0,O,fun p hp=>(by cases hp),Aj h0 fun p hp=>by rw [h1] at hp; cases hp⟩)
  | some p=>
   obtain ⟨g,K,t⟩:=p
   by_cases hg:g>g0
   ·refine .inr (.inr ⟨g,K,t,O,fun p hp=>?_,Nw h1 fun p hp=>?_⟩)
    ·injection hp with hp; subst hp; exact hg
    ·rw [h0] at hp; injection hp with hp; subst hp; exact hg
   ·refine .inr (.inl ⟨g0,K0,t0,O,fun p hp=>?_,Aj h0 fun p hp=>?_⟩)
    ·injection hp with hp; subst hp; show g≤g0; omega
    ·rw [h1] at hp; injection hp with hp; subst hp; show g≤g0; omega
theorem zGL {b:List Int} (hr:DN b):5≤(rR (b.drop 5) [] 5).2∧(rR (b.drop 5) [] 5).2≤5+(b.drop 5).length:=(Nl 5 (hr.drop 5) KW.nil).2
theorem zRe {b0 b1:List Int} (h0:DN b0) (h1:DN b1) (hl0:64≤b0.length∧b0.length≤1024) (hl1:64≤b1.length∧b1.length≤1024):Ns (aQ b0 b1):=by
 rcases jI b0 b1 with ⟨_,_,e⟩ | ⟨g,K,t,h,_,e⟩ | ⟨g,K,t,h,_,e⟩
 ·rw [e]
  exact ⟨KW.nil,by decide,by decide,by decide⟩
 ·obtain ⟨g1,g2,_,_,g5⟩:=mH h
  have hk:=Nl 5 (h0.drop 5) KW.nil
  rw [g5] at hk
  simp only [List.length_drop] at hk
  rw [e]
  refine ⟨hk.1,by show -1≤(0:Int)∧(0:Int)≤1; decide,?_,?_⟩
  ·show 0≤(t:Int)∧(t:Int)≤16384
   omega
  ·show 0≤g∧g≤2147483648
   omega
 ·obtain ⟨g1,g2,_,_,g5⟩:=mH h
  have hk:=Nl 5 (h1.drop 5) KW.nil
  rw [g5] at hk
  simp only [List.length_drop] at hk
  rw [e]
  refine ⟨hk.1,by show -1≤(1:Int)∧(1:Int)≤1; decide,?_,?_⟩
  ·show 0≤(t:Int)∧(t:Int)≤16384
   omega
  ·show 0≤g∧g≤2147483648
   omega
theorem Ny {l:List Int} {i:Nat} {w:List Int} (h:i+w.length≤l.length) {j:Nat} (hj:j<i):(spl l i w).getD j 0=l.getD j 0:=by
 rw [List.getD_eq_getElem?_getD,List.getD_eq_getElem?_getD,oW h,if_pos hj]
theorem zRl {l:List Int} {i:Nat} {w:List Int} (h:i+w.length≤l.length) (hi:4≤i):gL (spl l i w)=gL l:=by
 unfold gL
 rw [Ny h (by omega),Ny h (by omega),Ny h (by omega),Ny h (by omega)]
theorem zPX {l:List Int} {i:Nat} {w:List Int} (h:i+w.length≤l.length) (hi:5≤i):(spl l i w).drop 5=(l.drop 5).take (i - 5)++(w++l.drop (i+w.length)):=by
 unfold spl
 rw [List.append_assoc,List.drop_append_of_le_length (by rw [List.length_take]; omega),List.drop_take]
theorem zNS {l:List Int} {i:Nat} {w:List Int} (h:i+w.length≤l.length):(spl l i w).drop i=w++l.drop (i+w.length):=by
 unfold spl
 rw [List.append_assoc,List.drop_append_of_le_length (by rw [List.length_take]; omega),List.drop_eq_nil_of_le (by rw [List.length_take]; omega)]
 rfl
theorem zNH {l:List Int} {i:Nat} {w:List Int} (h:i+w.length≤l.length):(spl l i w).drop (i+w.length)=l.drop (i+w.length):=by
 have:=zNS h
 rw [←List.drop_drop,this,List.drop_left]
theorem aE {b:List Int} {t:Nat} (h:vT (b.drop t)=true) (k:Nat):b.drop (t+k)=List.replicate (b.length - (t+k)) 255:=by
 have:=aC.1 h
 rw [←List.drop_drop,this,List.drop_replicate]
 congr 1
 simp
 omega
theorem zJF {b:List Int} {g:Int} {K:List zD} {t:Nat} (hr:DN b) (h:tV b=some (g,K,t)) {w:List Int} (hw:DN w) (hl:t+w.length≤b.length):
  tV (spl b t w)=some (g,rR (w++b.drop (t+w.length)) K t):=by
 obtain ⟨g1,g2,g3,g4,g5⟩:=mH h
 have ht:=zGL hr
 rw [g5] at ht
 simp only at ht
 unfold tV
 rw [zRl hl (by omega),←g3,Ny hl (by omega),g4,if_neg (by simp only [not_or]; exact ⟨by simp,by omega,by omega⟩),zPX hl (by omega)]
 have:=zNG (b.drop 5).length [] 5 (Nat.le_refl _) (hr.drop 5) (w++b.drop (t+w.length)) (hw.app (hr.drop _))
 rw [g5] at this
 rw [this]
theorem zIa {b:List Int} {g:Int} {K:List zD} {t:Nat} (hr:DN b) (h:tV b=some (g,K,t)) (hbl:vT (b.drop t)=true) {l:List zD} (h1:1≤l.length) (h2:l.length≤32) (hc:∀ x∈l,PY x) (hn:(wC K l).length≤32) (hl:t+(xI l).length≤b.length):
  tV (spl b t (xI l))=some (g,wC K l,t+(xI l).length):=by
 have her:=nJ h2 hc
 rw [zJF hr h her hl,aE hbl,kT (her.app (DN.rep (by decide))),zBT h1 h2 hc]
 simp only
 rw [if_neg (by omega),List.drop_left,kT (DN.rep (by decide)),zDu]
theorem zNF {b:List Int} {g:Int} {K:List zD} {t:Nat} (hr:DN b) (h:tV b=some (g,K,t)) (hbl:vT (b.drop t)=true) {l:List zD} (h1:1≤l.length) (h2:l.length≤32) (hc:∀ x∈l,PY x) (hn:(wC K l).length≤32) (hl:t+(xI l).length≤b.length)
  {k:Nat} {tn:Int} (htn:0≤tn∧tn≤255) (hk:k<(xI l).length):
  tV (spl b t ((xI l).take k++ [FK .u8 ((xI l).getD k 0) tn]))=some (g,K,t)∨tV (spl b t ((xI l).take k++ [FK .u8 ((xI l).getD k 0) tn]))=some (g,wC K l,t+(xI l).length):=by
 have her:=nJ h2 hc
 have hyr:=Md (her.get k) htn
 have hwr:DN ((xI l).take k++ [FK .u8 ((xI l).getD k 0) tn]):=(her.take k).app (DN.cons hyr DN.nil)
 have hwl:((xI l).take k++ [FK .u8 ((xI l).getD k 0) tn]).length=k+1:=by simp; omega
 by_cases hne:k+1<(xI l).length∨tn≠0
 ·left
  rw [zJF hr h hwr (by omega),aE hbl,kT (hwr.app (DN.rep (by decide))),zJH h1 h2 hc htn hk hne]
 ·right
  have h0:tn=0:=by omega
  have hk1:k+1=(xI l).length:=by omega
  have:(xI l).take k++ [FK .u8 ((xI l).getD k 0) tn]=xI l:=by
   rw [h0,zUa (her.get k),List.getD_eq_getElem?_getD,List.getElem?_eq_getElem hk,Option.getD_some,←xY hk,hk1,List.take_length]
  rw [this]
  exact zIa hr h hbl h1 h2 hc hn hl
theorem cD {d:zA} (k j:Nat):(yZ d k)[j]? =if j<d.size.toNat then d.bytes[k*d.size.toNat+j]? else none:=by
 unfold yZ
 rw [List.getElem?_take]
 split
 ·rw [List.getElem?_drop]
 ·rfl
theorem zKa {d e:zA} {k k0 t:Nat} {w:List Int} (hz:e.size=d.size) (hb:e.bytes=spl d.bytes (k0*d.size.toNat+t) w) (hw:t+w.length≤d.size.toNat) (hl:k0*d.size.toNat+d.size.toNat≤d.bytes.length) (hk:k*d.size.toNat+d.size.toNat≤d.bytes.length):
  yZ e k=if k=k0 then spl (yZ d k) t w else yZ d k:=by
 have hsl:(yZ d k).length=d.size.toNat:=by simp only [yZ,List.length_take,List.length_drop]; omega
 apply List.ext_getElem?
 intro j
 rw [cD,hz,hb]
 by_cases hj:j<d.size.toNat
 ·rw [if_pos hj,oW (by omega)]
  by_cases hkk:k=k0
  ·subst hkk
   rw [if_pos O,oW (by omega),cD,if_pos hj]
   by_cases c1:j<t
   ·rw [if_pos (by omega),if_pos c1]
   ·rw [if_neg (by omega),if_neg c1]
    by_cases c2:j<t+w.length
    ·rw [if_pos (by omega),if_pos c2]
     congr 1
     omega
    ·rw [if_neg (by omega),if_neg c2]
  ·rw [if_neg hkk,cD,if_pos hj]
   rcases Nat.lt_or_gt_of_ne hkk with hlt | hgt
   ·have:(k+1)*d.size.toNat≤k0*d.size.toNat:=Nat.mul_le_mul_right _ hlt
    rw [Nat.add_mul] at this
    rw [if_pos (by omega)]
   ·have:(k0+1)*d.size.toNat≤k*d.size.toNat:=Nat.mul_le_mul_right _ hgt
    rw [Nat.add_mul] at this
    rw [if_neg (by omega),if_neg (by omega)]
 ·rw [if_neg hj]
  split
  ·rw [List.getElem?_eq_none (by rw [bW (by omega)]; omega)]
  ·rw [List.getElem?_eq_none (by omega)]
theorem zJI {d:zA} {k t n:Nat} (hl:k*d.size.toNat+d.size.toNat≤d.bytes.length) (hb:vT ((yZ d k).drop t)=true) (hn:t+n≤d.size.toNat):Vz d.bytes (k*d.size.toNat+t) n:=by
 intro j h1 h2
 have hsl:(yZ d k).length=d.size.toNat:=by simp only [yZ,List.length_take,List.length_drop]; omega
 have h3:=aE hb 0
 have h4:(yZ d k)[j - k*d.size.toNat]? =some 255:=by
  have:(yZ d k)[j - k*d.size.toNat]? =((yZ d k).drop (t+0))[j - k*d.size.toNat - t]?:=by
   rw [List.getElem?_drop]
   congr 1
   omega
  rw [this,h3,List.getElem?_replicate,if_pos (by omega)]
 rw [cD,if_pos (by omega)] at h4
 rw [←h4]
 congr 1
 omega
theorem zOr {g:Int} (h0:0≤g) (h1:g≤2147483648) (q:List Int):gL (fS g++q)=g:=by
 obtain ⟨n,rfl⟩:∃ n:Nat,g=(n:Int):=⟨g.toNat,by omega⟩
 have e8:(8:Int)=((8:Nat):Int):=rfl
 have e16:(16:Int)=((16:Nat):Int):=rfl
 have e24:(24:Int)=((24:Nat):Int):=rfl
 have p8:2 ^ 8=256:=rfl
 have p16:2 ^ 16=65536:=rfl
 have Np:2 ^ 24=16777216:=rfl
 have hb:IntKind.bits .i64=64:=rfl
 unfold fS
 rw [e8,e16,e24,ZL (by omega),ZL (by omega),ZL (by omega),qD,qD,qD,qD,p8,p16,Np]
 show ((n % 256:Nat):Int)+256*((n / 256 % 256:Nat):Int)+65536*((n / 65536 % 256:Nat):Int)+16777216*((n / 16777216 % 256:Nat):Int)=(n:Int)
 omega
theorem zLV {b c:List Int} (h:∀ j,j<4→b.getD j 0=c.getD j 0):gL b=gL c:=by
 unfold gL
 rw [h 0 (by omega),h 1 (by omega),h 2 (by omega),h 3 (by omega)]
theorem zPm {z:Nat} (hz:1024≤z) {g:Int} (h0:1≤g) (h1:g≤2147483648) {N:List zD} (hN:KW N) {b:List Int} (hb:b=spl (spl (spl (List.replicate z 255) 0 (fS g)) 5 (if N= [] then [] else xI N)) 4 [0]):
  tV b=some (g,N,5+(if N= [] then [] else xI N).length)∧vT (b.drop (5+(if N= [] then [] else xI N).length))=true:=by
 obtain ⟨w,hw⟩:∃ w,(if N= [] then [] else xI N)=w:=⟨_,rfl⟩
 rw [hw] at hb ⊢
 have hel:=Ah hN.len hN.ok
 have hwl:w.length≤962:=by
  rw [←hw]
  split
  ·simp
  ·exact hel.2
 have hwr:DN w:=by
  rw [←hw]
  split
  ·exact DN.nil
  ·exact nJ hN.len hN.ok
 have hgl:(fS g).length=4:=rfl
 have hrl:(List.replicate z (255:Int)).length=z:=by simp
 obtain ⟨b1,hb1⟩:∃ b1,spl (List.replicate z 255) 0 (fS g)=b1:=⟨_,rfl⟩
 have l1:b1.length=z:=by rw [←hb1,bW (by rw [hgl,hrl]; omega),hrl]
 obtain ⟨b2,hb2⟩:∃ b2,spl b1 5 w=b2:=⟨_,rfl⟩
 have l2:b2.length=z:=by rw [←hb2,bW (by omega),l1]
 rw [hb1,hb2] at hb
 have hlen:b.length=z:=by rw [hb,bW (by simp; omega),l2]
 have hget:∀ j,b[j]? =if j<4 then (fS g)[j]? else if j=4 then some 0 else if j<5+w.length then w[j - 5]? else if j<z then some 255 else none:=by
  intro j
  rw [hb,oW (by simp; omega),←hb2,oW (by omega),←hb1,oW (by rw [hgl,hrl]; omega),List.getElem?_replicate]
  simp only [List.length_singleton,hgl,Nat.not_lt_zero,if_false,Nat.zero_add,Nat.sub_zero]
  by_cases c1:j<4
  ·simp only [c1,if_true,show j<5 by omega]
  ·by_cases c2:j=4
   ·subst c2; simp
   ·by_cases c3:j<5+w.length
    ·simp only [c1,c2,c3,if_true,if_false,show ¬ j<4+1 by omega,show ¬ j<5 by omega]
    ·simp only [c1,c2,c3,if_true,if_false,show ¬ j<4+1 by omega,show ¬ j<5 by omega]
 have hdrop:b.drop 5=w++List.replicate (z - (5+w.length)) 255:=by
  apply List.ext_getElem?
  intro j
  rw [List.getElem?_drop,hget,if_neg (by omega),if_neg (by omega)]
  by_cases c:j<w.length
  ·rw [if_pos (by omega),List.getElem?_append_left c]
   congr 1
   omega
  ·rw [if_neg (by omega),List.getElem?_append_right (by omega),List.getElem?_replicate]
   by_cases c2:5+j<z
   ·rw [if_pos c2,if_pos (by omega)]
   ·rw [if_neg c2,if_neg (by omega)]
 have h4:b.getD 4 0=0:=by
  rw [List.getD_eq_getElem?_getD,hget,if_neg (by omega),if_pos O]
  rfl
 have hgen:gL b=g:=by
  have:=zOr (q:= []) (show 0≤g by omega) h1
  rw [←this]
  refine zLV fun j hj=>?_
  rw [List.getD_eq_getElem?_getD,List.getD_eq_getElem?_getD,hget,if_pos hj,List.append_nil]
 have hrd:rR (b.drop 5) [] 5=(N,5+w.length):=by
  rw [hdrop,kT (hwr.app (DN.rep (by decide))),←hw]
  by_cases hne:N= []
  ·rw [if_pos hne,List.nil_append,zDu,hne]
   rfl
  ·rw [if_neg hne]
   have hpos:=List.length_pos_iff.2 hne
   rw [zBT hpos hN.len hN.ok]
   have hall:wC [] N=N:=by
    refine zJc (Vq List.Pairwise.nil) hN.Af (zJr fun x h=>(by cases h)) hN.nd fun k=>?_
    rw [zHL]
    have key:∀ (L:List zD) (o:Option (List Int)),Asc L→Nd L→Nj L k o=(oM L k).or o:=by
     intro L
     induction L with
     | nil=>intro o _ _; rfl
     | cons x r ih=>
      intro o ha hn
      have hp:=List.pairwise_cons.1 ha
      have hx:=hn x (by simp)
      unfold Nj
      rw [List.foldl_cons,vC]
      by_cases hk:k=x.Key
      ·rw [if_pos hk,hx,if_neg (by decide),if_pos hk.symm]
       have:=ih (some x.Value) hp.2 (fun y hy=>hn y (by simp [hy]))
       unfold Nj at this
       rw [this,fA.2 (fun y hy=>by have:=hp.1 y hy; omega)]
       rfl
      ·rw [if_neg hk,if_neg (fun e=>hk e.symm)]
       exact ih o hp.2 (fun y hy=>hn y (by simp [hy]))
    rw [key N _ hN.Af hN.nd,zGC]
    cases oM N k <;> rfl
   simp only
   rw [hall,if_neg (by have:=hN.len; omega),List.drop_left,kT (DN.rep (by decide)),zDu]
 constructor
 ·unfold tV
  rw [h4,hgen,if_neg (by simp only [not_or]; exact ⟨by simp,by omega,by omega⟩),hrd]
 ·rw [←List.drop_drop,hdrop,List.drop_left,aC]
  simp
theorem Nz {b:List Int} (h:b.getD 4 0≠0):tV b=none:=if_pos (.inl h)
theorem zRc {b0 b1 c:List Int} {o:OS} (h:aQ b0 b1=o) (hc:tV c=none):(o.act=0→aQ b0 c=o)∧(o.act≠0→aQ c b1=o):=by
 rcases jI b0 b1 with ⟨h0,h1,e⟩ | ⟨g,K,t,h0,h1,e⟩ | ⟨g,K,t,h1,h0,e⟩
 ·rw [e] at h
  subst h
  exact ⟨fun ha=>(by cases ha),fun _=>zGy hc h1⟩
 ·rw [e] at h
  subst h
  exact ⟨fun _=>Aj h0 fun p hp=>(by rw [hc] at hp; cases hp),fun ha=>absurd rfl ha⟩
 ·rw [e] at h
  subst h
  exact ⟨fun ha=>(by cases ha),fun _=>Nw h1 fun p hp=>by rw [hc] at hp; cases hp⟩
theorem zRx {b0 b1 c:List Int} {o:OS} (h:aQ b0 b1=o) {N:List zD} {t:Nat} (hc:tV c=some (o.gen+1,N,t)):(o.act=0→aQ b0 c=UJ 1 c (o.gen+1) N t)∧(o.act≠0→aQ c b1=UJ 0 c (o.gen+1) N t):=by
 rcases jI b0 b1 with ⟨h0,h1,e⟩ | ⟨g,K,t',h0,h1,e⟩ | ⟨g,K,t',h1,h0,e⟩
 ·rw [e] at h
  subst h
  exact ⟨fun ha=>(by cases ha),fun _=>Aj hc fun p hp=>by rw [h1] at hp; cases hp⟩
 ·rw [e] at h
  subst h
  refine ⟨fun _=>Nw hc fun p hp=>?_,fun ha=>absurd O ha⟩
  rw [h0] at hp
  injection hp with hp
  subst hp
  show g<g+1
  omega
 ·rw [e] at h
  subst h
  refine ⟨fun ha=>(by cases ha),fun _=>Aj hc fun p hp=>?_⟩
  rw [h1] at hp
  injection hp with hp
  subst hp
  show g≤g+1
  omega
structure gY (d e:zA) (k:Nat) (c:List Int):Prop where
 ok:FV e
 size:e.size=d.size
 BD:e.BD.length=d.BD.length
 BQ:e.BQ=d.BQ
 len:e.bytes.length=d.bytes.length
 at_:yZ e k=c
 Ak:∀ j,j≠k→j<d.BD.length→yZ e j=yZ d j
theorem gY.refl {d:zA} (h:FV d) (k:Nat):gY d d k (yZ d k):=⟨h,O,O,O,O,O,fun _ _ _=>O⟩
theorem gY.write {d e:zA} {k:Nat} {c:List Int} (ht:gY d e k c) (h:FV d) (hk:k<d.BD.length) {e':zA} {t:Nat} {w:List Int} (he':FV e') (hs:e'.size=e.size) (hw:e'.BD.length=e.BD.length) (htn:e'.BQ=e.BQ) (hb:e'.bytes=spl e.bytes (k*d.size.toNat+t) w) (hl:t+w.length≤d.size.toNat):gY d e' k (spl c t w):=by
 have hle:=wP h hk
 have hz:e.size.toNat=d.size.toNat:=by rw [ht.size]
 refine ⟨he',hs.trans ht.size,hw.trans ht.BD,htn.trans ht.BQ,?_,?_,fun j hj hjw=>?_⟩
 ·rw [hb,bW (by rw [ht.len]; omega),ht.len]
 ·rw [zKa (k0:=k) hs (by rw [hz]; exact hb) (by rw [hz]; exact hl) (by rw [hz,ht.len]; exact hle) (by rw [hz,ht.len]; exact hle),if_pos O,ht.at_]
 ·rw [zKa (k0:=k) hs (by rw [hz]; exact hb) (by rw [hz]; exact hl) (by rw [hz,ht.len]; exact hle) (by rw [hz,ht.len]; exact wP h hjw),if_neg hj,ht.Ak j hj hjw]
theorem gY.prog {d e:zA} {k:Nat} {c:List Int} (ht:gY d e k c) (h:FV d) (hk:k<d.BD.length) (hd:e.down=false) {t:Nat} {w:List Int} (hr:DN w) (hl:t+w.length≤d.size.toNat) (hbl:∀ j,t≤j→j<t+w.length→c[j]? =some 255):
  ((zW e ((k*d.size.toNat+t:Nat):Int) w).2=0∧(zW e ((k*d.size.toNat+t:Nat):Int) w).1.down=false∧gY d (zW e ((k*d.size.toNat+t:Nat):Int) w).1 k (spl c t w))∨
  ((zW e ((k*d.size.toNat+t:Nat):Int) w).2=10∧(zW e ((k*d.size.toNat+t:Nat):Int) w).1.down=true∧∃ n,n<w.length∧gY d (zW e ((k*d.size.toNat+t:Nat):Int) w).1 k (spl c t (w.take n++ [FK .u8 (w.getD n 0) d.BQ]))):=by
 have hle:=wP h hk
 have hz:e.size.toNat=d.size.toNat:=by rw [ht.size]
 have her:Vz e.bytes (k*d.size.toNat+t) w.length:=fun j h1 h2=>by
  have:=hbl (j - k*d.size.toNat) (by omega) (by omega)
  rw [←ht.at_,cD,hz,if_pos (by omega)] at this
  rw [←this]
  congr 1
  omega
 obtain ⟨p1,p2,p3,p4,p5⟩:=zKE ht.ok hr ((k*d.size.toNat+t:Nat):Int)
 rcases zGW (i:=k*d.size.toNat+t) ht.ok hd hr (by rw [ht.len]; omega) her with ⟨h1,h2,h3⟩ | ⟨h1,h2,n,hn,h3⟩
 ·exact .inl ⟨h1,h3,ht.write h hk p1 p2 p3 p5 h2 hl⟩
 ·refine .inr ⟨h1,h2,n,hn,?_⟩
  rw [ht.BQ] at h3
  exact ht.write h hk p1 p2 p3 p5 h3 (by simp; omega)
theorem zLY {d:zA} (h:FV d) {k:Nat} (hk:k<d.BD.length) (hd:d.down=false):
  ((vF d (k:Int)).2=0∧(vF d (k:Int)).1.down=false∧gY d (vF d (k:Int)).1 k (List.replicate d.size.toNat 255))∨
  ((vF d (k:Int)).2=10∧(vF d (k:Int)).1.down=true∧gY d (vF d (k:Int)).1 k ((yZ d k).map fun x=>FK .u8 x d.BQ)):=by
 have hle:=wP h hk
 have hsl:=sP h hk
 obtain ⟨p1,p2,p3,p4,p5⟩:=zDA h (k:Int)
 have key:∀ v,KF d.bytes (k*d.size.toNat) d.size.toNat v=spl d.bytes (k*d.size.toNat+0) ((yZ d k).map fun x=>FK .u8 x v):=fun v=>by
  unfold KF spl yZ
  rw [Nat.add_zero]
  simp only [List.length_map,List.length_take,List.length_drop]
  congr 2
  omega
 have hstep:(yP (JF d k)).1.down=(yP (JF d k)).2:=bM hd
 have e1:((k:Int)).toNat=k:=rfl
 cases hf:(yP (JF d k)).2
 ·left
  have ee:vF d (k:Int)=(NZ (yP (JF d k)).1 (KF d.bytes (k*d.size.toNat) d.size.toNat 255),0):=by
   unfold vF
   rw [if_neg (by simp [hd]),if_neg (by omega),e1,hf]
   rfl
  rw [ee] at p1 p2 p3 p5 ⊢
  rw [hf] at hstep
  refine ⟨O,hstep,?_⟩
  have:=(gY.refl h k).write h hk (e':=NZ (yP (JF d k)).1 (KF d.bytes (k*d.size.toNat) d.size.toNat 255)) (t:=0) (w:=(yZ d k).map fun x=>FK .u8 x 255) p1 p2 p3 p5 (key 255) (by simp [hsl])
  have e2:spl (yZ d k) 0 ((yZ d k).map fun x=>FK .u8 x 255)=List.replicate d.size.toNat 255:=by
   unfold spl
   rw [List.take_zero,List.nil_append,Nat.zero_add,List.drop_eq_nil_of_le (by simp),List.append_nil,List.eq_replicate_iff]
   refine ⟨by simp [hsl],fun x hx=>?_⟩
   obtain ⟨y,hy,rfl⟩:=List.mem_map.1 hx
   exact zSs (qZ h k y hy)
  rw [e2] at this
  exact this
 ·right
  have ee:vF d (k:Int)=(NZ (yP (JF d k)).1 (KF d.bytes (k*d.size.toNat) d.size.toNat d.BQ),10):=by
   unfold vF
   rw [if_neg (by simp [hd]),if_neg (by omega),e1,hf]
   rfl
  rw [ee] at p1 p2 p3 p5 ⊢
  rw [hf] at hstep
  refine ⟨O,hstep,?_⟩
  have:=(gY.refl h k).write h hk (e':=NZ (yP (JF d k)).1 (KF d.bytes (k*d.size.toNat) d.size.toNat d.BQ)) (t:=0) (w:=(yZ d k).map fun x=>FK .u8 x d.BQ) p1 p2 p3 p5 (key d.BQ) (by simp [hsl])
  have e2:spl (yZ d k) 0 ((yZ d k).map fun x=>FK .u8 x d.BQ)=(yZ d k).map fun x=>FK .u8 x d.BQ:=by
   unfold spl
   rw [List.take_zero,List.nil_append,Nat.zero_add,List.drop_eq_nil_of_le (by simp),List.append_nil]
  rw [e2] at this
  exact this
theorem zIx {o:OS} {d:zA} (h:FV d) (hd:d.down=false) (hz:1024≤d.size) {f:Nat} (hf:f+1<d.BD.length) {N:List zD} (hN:KW N):
  ((pM o d f N).2=0∧(pM o d f N).1.down=false∧gY d (pM o d f N).1 (f+wG o) (spl (spl (spl (List.replicate d.size.toNat 255) 0 (fS (o.gen+1))) 5 (if N= [] then [] else xI N)) 4 [0]))∨
  ((pM o d f N).2=10∧(pM o d f N).1.down=true∧∃ c,gY d (pM o d f N).1 (f+wG o) c∧(c=spl (spl (spl (List.replicate d.size.toNat 255) 0 (fS (o.gen+1))) 5 (if N= [] then [] else xI N)) 4 [0]∨tV c=none∨c=yZ d (f+wG o))):=by
 have hw:=h.BD
 have hsz:=h.size
 have rf:wG o≤1:=by unfold wG; split <;> omega
 have hk:f+wG o<d.BD.length:=by omega
 obtain ⟨k,hkk⟩:∃ k,f+wG o=k:=⟨_,rfl⟩
 rw [hkk] at hk ⊢
 have hle:=wP h hk
 obtain ⟨z,hzz⟩:∃ z,d.size.toNat=z:=⟨_,rfl⟩
 have hz':1024≤z:=by omega
 have hel:=Ah hN.len hN.ok
 obtain ⟨w,hwe⟩:∃ w,(if N= [] then [] else xI N)=w:=⟨_,rfl⟩
 have hwl:w.length≤962:=by
  rw [←hwe]
  split
  ·simp
  ·exact hel.2
 have hwr:DN w:=by
  rw [←hwe]
  split
  ·exact DN.nil
  ·exact nJ hN.len hN.ok
 have hgl:(fS (o.gen+1)).length=4:=rfl
 have hgr:=Nu (o.gen+1)
 unfold pM
 simp only
 rw [hkk,hzz,hwe]
 -- the first stage: erased
 obtain ⟨r1,hr1⟩:∃ r1,(if vT (yZ d k) then (d,0) else vF d (k:Int))=r1:=⟨_,rfl⟩
 rw [hr1]
 have s1:(r1.2=0∧r1.1.down=false∧gY d r1.1 k (List.replicate z 255))∨(r1.2=10∧r1.1.down=true∧gY d r1.1 k ((yZ d k).map fun x=>FK .u8 x d.BQ)):=by
  rw [←hr1]
  split
  ·rename_i hb
   left
   refine ⟨O,hd,?_⟩
   have:=gY.refl h k
   rw [aC.1 hb,sP h hk,hzz] at this
   exact this
  ·have:=zLY h hk hd
   rw [hzz] at this
   exact this
 rcases s1 with ⟨a1,a2,a3⟩ | ⟨a1,a2,a3⟩
 case inr=>
  right
  have e1:(tT (tT (tT r1 fun d1=>zW d1 ((k*z:Nat):Int) (fS (o.gen+1))) fun d2=>if N= [] then (d2,0) else zW d2 (((k*z:Nat):Int)+5) (xI N)) fun d3=>zW d3 (((k*z:Nat):Int)+4) [0])=r1:=by
   have hne:¬ r1.2=0:=by rw [a1]; decide
   unfold tT
   rw [if_neg hne,if_neg hne,if_neg hne]
  rw [e1]
  refine ⟨a1,a2,_,a3,?_⟩
  by_cases ht:d.BQ=0
  ·right; right
   rw [ht]
   conv=>rhs; rw [←List.map_id (yZ d k)]
   apply List.map_congr_left
   intro x hx
   exact zUa (qZ h k x hx)
  ·right; left
   refine Nz ?_
   rw [List.getD_eq_getElem?_getD,List.getElem?_map]
   have h4:4<(yZ d k).length:=by rw [sP h hk]; omega
   rw [List.getElem?_eq_getElem h4]
   show FK .u8 (yZ d k)[4] d.BQ≠0
   intro e
   exact ht ((or_zero (qZ h k _ (List.getElem_mem h4)) h.BQ).1 e).2
 -- the generation
 have QV:∀ j,j<z→(List.replicate z (255:Int))[j]? =some 255:=fun j hj=>by rw [List.getElem?_replicate,if_pos hj]
 have e2:(tT r1 fun d1=>zW d1 ((k*z:Nat):Int) (fS (o.gen+1)))=zW r1.1 ((k*z:Nat):Int) (fS (o.gen+1)):=by unfold tT; rw [if_pos a1]
 rw [e2]
 have s2:=a3.prog h hk a2 (t:=0) hgr (by rw [hzz,hgl]; omega) (fun j _ hj=>QV j (by rw [hgl] at hj; omega))
 rw [hzz,Nat.add_zero] at s2
 obtain ⟨r2,hr2⟩:∃ r2,zW r1.1 ((k*z:Nat):Int) (fS (o.gen+1))=r2:=⟨_,rfl⟩
 rw [hr2] at s2 ⊢
 have hst:∀ (u:List Int),u.length≤4→(spl (List.replicate z (255:Int)) 0 u).getD 4 0=255:=fun u hu=>by
  rw [List.getD_eq_getElem?_getD,oW (by simp; omega),if_neg (by omega),if_neg (by omega),QV 4 (by omega)]
  rfl
 rcases s2 with ⟨b1,b2,b3⟩ | ⟨b1,b2,n,hn,b3⟩
 case inr=>
  right
  have e3:(tT (tT r2 fun d2=>if N= [] then (d2,0) else zW d2 (((k*z:Nat):Int)+5) (xI N)) fun d3=>zW d3 (((k*z:Nat):Int)+4) [0])=r2:=by
   have hne:¬ r2.2=0:=by rw [b1]; decide
   unfold tT
   rw [if_neg hne,if_neg hne]
  rw [e3]
  refine ⟨b1,b2,_,b3, .inr (.inl (Nz ?_))⟩
  rw [hst _ (by rw [hgl] at hn; simp [hgl]; omega)]
  decide
 -- the settings
 obtain ⟨c1,hc1⟩:∃ c1,spl (List.replicate z (255:Int)) 0 (fS (o.gen+1))=c1:=⟨_,rfl⟩
 rw [hc1] at b3 ⊢
 have aUY:c1.length=z:=by rw [←hc1,bW (by simp [hgl]; omega)]; simp
 have ru:∀ j,4≤j→j<z→c1[j]? =some 255:=fun j h4 hj=>by rw [←hc1,oW (by simp [hgl]; omega),if_neg (by omega),if_neg (by rw [hgl]; omega),QV j hj]
 have e4:(tT r2 fun d2=>if N= [] then (d2,0) else zW d2 (((k*z:Nat):Int)+5) (xI N))=if N= [] then (r2.1,0) else zW r2.1 (((k*z:Nat):Int)+5) (xI N):=by unfold tT; rw [if_pos b1]
 rw [e4]
 have s3:∃ r3,(if N= [] then (r2.1,0) else zW r2.1 (((k*z:Nat):Int)+5) (xI N))=r3∧((r3.2=0∧r3.1.down=false∧gY d r3.1 k (spl c1 5 w))∨(r3.2=10∧r3.1.down=true∧∃ n,n<w.length∧gY d r3.1 k (spl c1 5 (w.take n++ [FK .u8 (w.getD n 0) d.BQ])))):=by
  refine ⟨_,O,?_⟩
  by_cases hne:N= []
  ·rw [if_pos hne]
   left
   rw [if_pos hne] at hwe
   rw [←hwe,zMC]
   exact ⟨O,b2,b3⟩
  ·rw [if_neg hne]
   rw [if_neg hne] at hwe
   have e5:((k*z:Nat):Int)+5=((k*z+5:Nat):Int):=by omega
   have:=b3.prog h hk b2 (t:=5) hwr (by rw [hzz]; omega) (fun j h1 h2=>ru j (by omega) (by omega))
   rw [hzz] at this
   rw [e5,hwe]
   exact this
 obtain ⟨r3,hr3,s3⟩:=s3
 rw [hr3]
 rcases s3 with ⟨g1,g2,g3⟩ | ⟨g1,g2,n,hn,g3⟩
 case inr=>
  right
  have e6:(tT r3 fun d3=>zW d3 (((k*z:Nat):Int)+4) [0])=r3:=by
   have hne:¬ r3.2=0:=by rw [g1]; decide
   unfold tT
   rw [if_neg hne]
  rw [e6]
  refine ⟨g1,g2,_,g3, .inr (.inl (Nz ?_))⟩
  rw [List.getD_eq_getElem?_getD,oW (by simp; omega),if_pos (by omega),ru 4 (by omega) (by omega)]
  decide
 -- the status
 have e7:(tT r3 fun d3=>zW d3 (((k*z:Nat):Int)+4) [0])=zW r3.1 (((k*z:Nat):Int)+4) [0]:=by unfold tT; rw [if_pos g1]
 rw [e7]
 have e8:((k*z:Nat):Int)+4=((k*z+4:Nat):Int):=by omega
 rw [e8]
 have aCe:∀ j,4≤j→j<4+ [(0:Int)].length→(spl c1 5 w)[j]? =some 255:=fun j h1 h2=>by
  simp only [List.length_singleton] at h2
  rw [oW (by omega),if_pos (by omega),ru j h1 (by omega)]
 have s4:=g3.prog h hk g2 (t:=4) (w:= [0]) (DN.cons (by decide) DN.nil) (by rw [hzz]; simp; omega) aCe
 rw [hzz] at s4
 rcases s4 with ⟨i1,i2,i3⟩ | ⟨i1,i2,n,hn,i3⟩
 ·exact .inl ⟨i1,i2,i3⟩
 ·right
  refine ⟨i1,i2,_,i3,?_⟩
  have hn0:n=0:=by simp at hn; exact hn
  subst hn0
  have e9:(([0]:List Int).take 0++ [FK .u8 (([0]:List Int).getD 0 0) d.BQ])= [FK .u8 0 d.BQ]:=rfl
  rw [e9]
  by_cases ht:d.BQ=0
  ·left
   rw [ht,zUa (by decide)]
  ·right; left
   refine Nz ?_
   rw [List.getD_eq_getElem?_getD,oW (by rw [bW (by omega)]; simp; omega),if_neg (by omega),if_pos (by simp)]
   show FK .u8 0 d.BQ≠0
   intro e
   exact ht ((or_zero (by decide) h.BQ).1 e).2
structure ZT (d e:zA):Prop where
 ok:FV e
 size:e.size=d.size
 BD:e.BD.length=d.BD.length
 BQ:e.BQ=d.BQ
 len:e.bytes.length=d.bytes.length
theorem ZT.refl {d:zA} (h:FV d):ZT d d:=⟨h,O,O,O,O⟩
theorem gY.like {d e:zA} {k:Nat} {c:List Int} (h:gY d e k c):ZT d e:=⟨h.ok,h.size,h.BD,h.BQ,h.len⟩
structure zPV (o:OS) (d:zA) (f:Nat) (l:List zD) (r:Option OS × zA × Int):Prop where
 like:ZT d r.2.1
 cases:(r.2.2=0∧r.2.1.down=false∧r.1=some (DK r.2.1 f)∧kZ l=0∧(DK r.2.1 f).K=wC o.K l∧(DK r.2.1 f).gen≤o.gen+1)∨
  ((r.2.2=1∨r.2.2=3∨r.2.2=7)∧r.1=some o∧r.2.1=d)∨
  (r.2.2=10∧r.2.1.down=true∧r.1=none∧kZ l=0∧((DK r.2.1 f).K=o.K∨(DK r.2.1 f).K=wC o.K l)∧(DK r.2.1 f).gen≤o.gen+1)
theorem zQP {l:List zD} (hl:∀ x∈l,0≤x.Key∧x.Key≤255∧DN x.Value) (h:kZ l=0):∀ x∈l,PY x:=fun x hx=>
 have hc:=(Vu h).2 x hx
 ⟨⟨(hl x hx).1,(hl x hx).2.1⟩,hc.1,(hl x hx).2.2,hc.2⟩
theorem cH {d:zA} (h:FV d) (hz:1024≤d.size) {f:Nat} (hf:f+1<d.BD.length):Ns (DK d f):=by
 have hs:=h.size
 rw [oH]
 exact zRe (qZ h _) (qZ h _) (by rw [sP h (by omega)]; omega) (by rw [sP h hf]; omega)
theorem zDt {o:OS} {d:zA} {f:Nat} {l:List zD} (h:FV d) (hd:d.down=false) (hz:1024≤d.size) (hf:f+1<d.BD.length) (ho:DK d f=o) (hc0:kZ l=0) (hnil:l≠ []) (KG:∀ x∈l,PY x) (h32:(wC o.K l).length≤32)
  (ha:0≤o.act) (hcl:o.clean=true) (hlen:((xI l).length:Int)≤d.size - o.tail):
  zPV o d f l (eG o ⟨o.act,o.gen,wC o.K l,o.tail+(xI l).length,o.clean⟩ (zW d (((f+o.act.toNat)*d.size.toNat:Nat)+o.tail) (xI l))):=by
 have hco:=Vu hc0
 have hpos:1≤l.length:=List.length_pos_iff.2 hnil
 have her:=nJ hco.1 KG
 have hsz:=h.size
 -- the active EJ
 have key:∃ (a:Nat) (t:Nat),o.act=(a:Int)∧a≤1∧o.tail=(t:Int)∧tV (yZ d (f+a))=some (o.gen,o.K,t)∧vT ((yZ d (f+a)).drop t)=true∧
   (∀ (e:zA) (K':List zD) (t':Nat),tV (yZ e (f+a))=some (o.gen,K',t')→(∀ j,j≠f+a→j<d.BD.length→yZ e j=yZ d j)→DK e f=⟨(a:Int),o.gen,K',(t':Int),vT ((yZ e (f+a)).drop t')⟩):=by
  rw [oH] at ho
  rcases jI (yZ d f) (yZ d (f+1)) with ⟨_,_,e⟩ | ⟨g,K,t,h0,h1,e⟩ | ⟨g,K,t,h1,h0,e⟩
  ·rw [e] at ho
   subst ho
   exact absurd ha (by decide)
  ·rw [e] at ho
   subst ho
   refine ⟨0,t,O,by omega,O,h0,hcl,fun e K' t' h2 h3=>?_⟩
   rw [oH,h3 (f+1) (by omega) hf]
   exact Aj h2 h1
  ·rw [e] at ho
   subst ho
   refine ⟨1,t,O,by omega,O,h1,hcl,fun e K' t' h2 h3=>?_⟩
   rw [oH,h3 f (by omega) (by omega)]
   exact Nw h2 h0
 obtain ⟨a,t,e1,ha1,e2,hs,hb,hopen⟩:=key
 have hk:f+a<d.BD.length:=by omega
 have hle:=wP h hk
 rw [e2] at hlen
 have hpa:((f+o.act.toNat)*d.size.toNat:Nat)+o.tail=(((f+a)*d.size.toNat+t:Nat):Int):=by
  rw [e1,e2]
  have:((a:Int)).toNat=a:=rfl
  rw [this]
  omega
 rw [hpa]
 have htl:t+(xI l).length≤d.size.toNat:=by omega
 have hlen2:(yZ d (f+a)).length=d.size.toNat:=sP h hk
 have hbg:∀ j,t≤j→j<t+(xI l).length→(yZ d (f+a))[j]? =some 255:=fun j h1 h2=>by
  have:=zJI hle hb htl ((f+a)*d.size.toNat+j) (by omega) (by omega)
  rw [cD,if_pos (by omega)]
  exact this
 obtain ⟨r,hr⟩:∃ r,zW d (((f+a)*d.size.toNat+t:Nat):Int) (xI l)=r:=⟨_,rfl⟩
 have hp:=(gY.refl h (f+a)).prog h hk hd her htl hbg
 rw [hr] at hp ⊢
 rcases hp with ⟨p1,p2,p3⟩ | ⟨p1,p2,n,hn,p3⟩
 ·have h2:=zIa (qZ h _) hs hb hpos hco.1 KG h32 (by rw [hlen2]; exact htl)
  have h3:=hopen r.1 (wC o.K l) (t+(xI l).length) (by rw [p3.at_]; exact h2) p3.Ak
  have hcl':vT ((yZ r.1 (f+a)).drop (t+(xI l).length))=true:=by
   rw [p3.at_,zNH (by rw [hlen2]; exact htl),aE hb,aC]
   simp
  rw [hcl'] at h3
  unfold eG
  rw [if_pos p1]
  refine ⟨p3.like, .inl ⟨O,p2,?_,hc0,by rw [h3],by rw [h3]; show o.gen≤o.gen+1; omega⟩⟩
  rw [h3,e1,e2,hcl]
  congr 2
 ·have hne:¬ r.2=0:=by rw [p1]; decide
  unfold eG
  rw [if_neg hne,if_pos p1]
  refine ⟨p3.like, .inr (.inr ⟨O,p2,O,hc0,?_⟩)⟩
  rcases zNF (qZ h _) hs hb hpos hco.1 KG h32 (by rw [hlen2]; exact htl) h.BQ hn with h2 | h2
  ·have h3:=hopen r.1 _ _ (by rw [p3.at_]; exact h2) p3.Ak
   rw [h3]
   exact ⟨.inl O,by show o.gen≤o.gen+1; omega⟩
  ·have h3:=hopen r.1 _ _ (by rw [p3.at_]; exact h2) p3.Ak
   rw [h3]
   exact ⟨.inr O,by show o.gen≤o.gen+1; omega⟩
theorem zRR {o:OS} {d:zA} {f:Nat} {l:List zD} (h:FV d) (hd:d.down=false) (hz:1024≤d.size) (hf:f+1<d.BD.length) (ho:DK d f=o) (hc0:kZ l=0) (hK:KW (wC o.K l)) (hg:o.gen≠2147483648):
  zPV o d f l (eG o (Ag o (wC o.K l)) (pM o d f (wC o.K l))):=by
 have WE:=cH h hz hf
 rw [ho] at WE
 have hgb:=WE.gen
 have rf:wG o≤1:=by unfold wG; split <;> omega
 have hact:=WE.act
 obtain ⟨N,hN⟩:∃ N,wC o.K l=N:=⟨_,rfl⟩
 rw [hN] at hK
 have hz2:1024≤d.size.toNat:=by omega
 -- what the DU say when the other one was turned
 have key:∀ (e:zA) (c:List Int),gY d e (f+wG o) c→(tV c=none→DK e f=o)∧(∀ t,tV c=some (o.gen+1,N,t)→DK e f=UJ (wG o:Int) c (o.gen+1) N t)∧(c=yZ d (f+wG o)→DK e f=o):=by
  intro e c ht
  rw [oH] at ho
  have h1:=fun hc=>zRc (c:=c) ho hc
  have h2:=fun (t:Nat) (hc:tV c=some (o.gen+1,N,t))=>zRx (c:=c) ho hc
  rw [oH]
  by_cases ha:o.act=0
  ·have hof:wG o=1:=by unfold wG; rw [if_pos ha]
   rw [hof] at ht ⊢
   rw [ht.Ak f (by omega) (by omega),ht.at_]
   exact ⟨fun hc=>(h1 hc).1 ha,fun t hc=>(h2 t hc).1 ha,fun hc=>by rw [hc]; exact ho⟩
  ·have hof:wG o=0:=by unfold wG; rw [if_neg ha]
   rw [hof] at ht ⊢
   rw [Nat.add_zero] at ht ⊢
   rw [ht.Ak (f+1) (by omega) hf,ht.at_]
   exact ⟨fun hc=>(h1 hc).2 ha,fun t hc=>(h2 t hc).2 ha,fun hc=>by rw [hc]; exact ho⟩
 rw [hN]
 have hnew:=zPm hz2 (g:=o.gen+1) (by omega) (by omega) hK O
 obtain ⟨r,hr⟩:∃ r,pM o d f N=r:=⟨_,rfl⟩
 have hms:=zIx (o:=o) h hd hz hf hK
 rw [hr] at hms ⊢
 have hmo:UJ (wG o:Int) (spl (spl (spl (List.replicate d.size.toNat 255) 0 (fS (o.gen+1))) 5 (if N= [] then [] else xI N)) 4 [0]) (o.gen+1) N (5+(if N= [] then [] else xI N).length)=Ag o N:=by
  unfold UJ Ag
  rw [hnew.2]
  congr 1
  by_cases hne:N= []
  ·rw [if_pos hne,if_pos hne]; rfl
  ·rw [if_neg hne,if_neg hne]; omega
 rcases hms with ⟨p1,p2,p3⟩ | ⟨p1,p2,c,p3,p4⟩
 ·have h3:=(key r.1 _ p3).2.1 _ hnew.1
  rw [hmo] at h3
  unfold eG
  rw [if_pos p1]
  exact ⟨p3.like, .inl ⟨O,p2,by rw [h3],hc0,by rw [h3,hN]; rfl,by rw [h3]; exact Int.le_refl _⟩⟩
 ·have hne:¬ r.2=0:=by rw [p1]; decide
  unfold eG
  rw [if_neg hne,if_pos p1]
  refine ⟨p3.like, .inr (.inr ⟨O,p2,O,hc0,?_⟩)⟩
  rcases p4 with p4 | p4 | p4
  ·rw [p4] at p3
   have h3:=(key r.1 _ p3).2.1 _ hnew.1
   rw [hmo] at h3
   rw [h3]
   exact ⟨.inr hN.symm,Int.le_refl _⟩
  ·rw [(key r.1 _ p3).1 p4]
   exact ⟨.inl O,by omega⟩
  ·rw [(key r.1 _ p3).2.2 p4]
   exact ⟨.inl O,by omega⟩
theorem zUc {o:OS} {d:zA} {f:Nat} {l:List zD} (h:FV d) (hd:d.down=false) (hz:1024≤d.size) (hf:f+1<d.BD.length) (ho:DK d f=o) (hl:∀ x∈l,0≤x.Key∧x.Key≤255∧DN x.Value):zPV o d f l (cS o d f l):=by
 unfold cS
 rw [if_neg (by simp [hd])]
 by_cases hc:kZ l≠0
 ·rw [if_pos hc]
  refine ⟨ZT.refl h, .inr (.inl ⟨?_,O,O⟩)⟩
  rcases zLc l with e | e | e | e
  ·exact absurd e hc
  ·exact .inl e
  ·exact .inr (.inr e)
  ·exact .inr (.inl e)
 ·have hc0:kZ l=0:=by omega
  rw [if_neg hc]
  by_cases hnil:l= []
  ·rw [if_pos hnil]
   refine ⟨ZT.refl h, .inl ⟨O,hd,by rw [ho],hc0,by rw [ho,hnil]; rfl,by rw [ho]; show o.gen≤o.gen+1; omega⟩⟩
  ·rw [if_neg hnil]
   by_cases h32:(wC o.K l).length>32
   ·rw [if_pos h32]
    exact ⟨ZT.refl h, .inr (.inl ⟨.inr (.inl O),O,O⟩)⟩
   ·rw [if_neg h32]
    have KG:=zQP hl hc0
    have WE:=cH h hz hf
    rw [ho] at WE
    by_cases hap:0≤o.act∧o.clean=true∧((xI l).length:Int)≤d.size - o.tail
    ·rw [if_pos hap]
     exact zDt h hd hz hf ho hc0 hnil KG (by omega) hap.1 hap.2.1 hap.2.2
    ·rw [if_neg hap]
     by_cases hg:o.gen=2147483648
     ·rw [if_pos hg]
      exact ⟨ZT.refl h, .inr (.inl ⟨.inr (.inl O),O,O⟩)⟩
     ·rw [if_neg hg]
      exact zRR h hd hz hf ho hc0 (WE.K.all KG (by omega)) hg
theorem zQb {o:OS} {d:zA} {f:Nat} {l:List zD} (h:FV d) (hd:d.down=false) (hz:1024≤d.size) (hf:f+1<d.BD.length) (ho:DK d f=o) (hl:∀ x∈l,0≤x.Key∧x.Key≤255∧DN x.Value) (hc:kZ l=0) (h32:(wC o.K l).length≤32) (hg:o.gen<2147483648):
  (cS o d f l).2.2=0∨(cS o d f l).2.2=10:=by
 have KG:=zQP hl hc
 have WE:=cH h hz hf
 rw [ho] at WE
 have hK:=WE.K.all KG h32
 unfold cS
 rw [if_neg (by simp [hd]),if_neg (by simp [hc])]
 split
 ·exact .inl O
 ·rename_i hnil
  rw [if_neg (by omega)]
  split
  ·rename_i hap
   rcases (zDt h hd hz hf ho hc hnil KG h32 hap.1 hap.2.1 hap.2.2).cases with hh | hh | hh
   ·exact .inl hh.1
   ·exfalso
    obtain ⟨h1,h2,h3⟩:=hh
    unfold eG at h1 h2
    split at h1
    ·rcases h1 with h1 | h1 | h1 <;> cases h1
    ·split at h1
     ·rcases h1 with h1 | h1 | h1 <;> cases h1
     ·rename_i h4 h5
      -- zW over an erased part is never refused
      have:=zDt h hd hz hf ho hc hnil KG h32 hap.1 hap.2.1 hap.2.2
      simp only at h1
      unfold zW at h1 h4 h5
      rw [if_neg (by simp [hd])] at h1 h4 h5
      split at h1
      ·rename_i h6
       rw [if_pos h6] at h4 h5
       rcases dS (xI l) d (((f+o.act.toNat)*d.size.toNat:Nat)+o.tail).toNat with h7 | h7
       ·exact h4 h7
       ·exact h5 h7
      ·rename_i h6
       have hoa:=WE.act
       have hle:=wP h (show f+o.act.toNat<d.BD.length by omega)
       have hsz:=h.size
       have ht:=WE.tail
       exact h6 ⟨by omega,by omega,by omega,by omega⟩
   ·exact .inr hh.1
  ·rw [if_neg (by omega)]
   have hms:=zIx (o:=o) h hd hz hf hK
   unfold eG
   rcases hms with ⟨p1,_⟩ | ⟨p1,_⟩
   ·rw [if_pos p1]; exact .inl O
   ·rw [if_neg (by rw [p1]; decide),if_pos p1]; exact .inr O
theorem zFf {d:zA} (h:d.left=0) (hd:d.down=false):(yP d).2=false∧(yP d).1.left=0∧(yP d).1.down=false:=by
 unfold yP
 rw [if_neg (by omega)]
 exact ⟨hd,h,hd⟩
theorem zFc:∀ (b:List Int) (d:zA) (i:Nat),d.left=0→d.down=false→(qN d i b).2=0∧(qN d i b).1.left=0∧(qN d i b).1.down=false
 | [],d,i,h,hd=>⟨O,h,hd⟩
 | x::b,d,i,h,hd=>by
  obtain ⟨h1,h2,h3⟩:=zFf h hd
  unfold qN
  rw [if_neg (by rw [h1]; decide)]
  exact zFc b (NU (yP d).1 i _) (i+1) h2 h3
theorem jY {d:zA} (h:d.left=0) (hd:d.down=false) (at_:Int) (b:List Int):(zW d at_ b).2≠10∧(zW d at_ b).1.left=0∧(zW d at_ b).1.down=false:=by
 unfold zW
 rw [if_neg (by simp [hd])]
 split
 ·obtain ⟨h1,h2,h3⟩:=zFc b d at_.toNat h hd
  exact ⟨by rw [h1]; decide,h2,h3⟩
 ·exact ⟨by simp,h,hd⟩
theorem zLa {d:zA} (h:d.left=0) (hd:d.down=false) (s:Int):(vF d s).2≠10∧(vF d s).1.left=0∧(vF d s).1.down=false:=by
 unfold vF
 rw [if_neg (by simp [hd])]
 split
 ·exact ⟨by simp,h,hd⟩
 ·obtain ⟨h1,h2,h3⟩:=zFf (d:=JF d s.toNat) h hd
  rw [h1]
  exact ⟨by simp,h2,h3⟩
theorem zDG {r:zA × Int} {g:zA→zA × Int} (hr:r.2≠10∧r.1.left=0∧r.1.down=false) (hg:∀ e:zA,e.left=0→e.down=false→(g e).2≠10∧(g e).1.left=0∧(g e).1.down=false):(tT r g).2≠10∧(tT r g).1.left=0∧(tT r g).1.down=false:=by
 unfold tT
 split
 ·exact hg _ hr.2.1 hr.2.2
 ·exact hr
theorem zMw {d:zA} (h:d.left=0) (hd:d.down=false) (o:OS) (f:Nat) (N:List zD):(pM o d f N).2≠10∧(pM o d f N).1.left=0∧(pM o d f N).1.down=false:=by
 unfold pM
 refine zDG (zDG (zDG ?_ fun e a b=>jY a b _ _) fun e a b=>?_) fun e a b=>jY a b _ _
 ·split
  ·exact ⟨by simp,h,hd⟩
  ·exact zLa h hd _
 ·split
  ·exact ⟨by simp,a,b⟩
  ·exact jY a b _ _
theorem zHQ {o o':OS} {r:zA × Int} (h:r.2≠10∧r.1.left=0∧r.1.down=false):(eG o o' r).2.2≠10∧(eG o o' r).2.1.left=0∧(eG o o' r).2.1.down=false:=by
 unfold eG
 split
 ·exact ⟨by simp,h.2.1,h.2.2⟩
 ·rw [if_neg h.1]
  exact h
theorem zNQ {d:zA} (h:d.left=0) (hd:d.down=false) (o:OS) (f:Nat) (l:List zD):(cS o d f l).2.2≠10∧(cS o d f l).2.1.left=0∧(cS o d f l).2.1.down=false:=by
 unfold cS
 rw [if_neg (by simp [hd])]
 split
 ·refine ⟨?_,h,hd⟩
  rcases zLc l with e | e | e | e <;> simp [e]
 ·split
  ·exact ⟨by simp,h,hd⟩
  ·split
   ·exact ⟨by simp,h,hd⟩
   ·split
    ·exact zHQ (jY h hd _ _)
    ·split
     ·exact ⟨by simp,h,hd⟩
     ·exact zHQ (zMw h hd o f _)
theorem zQM {n:Nat} (h:n<4294967296):rM .u64 (n:Int) 32=0:=by
 have e:rM .u64 (n:Int) ((32:Nat):Int)=((n / 2 ^ 32:Nat):Int):=ZL (by show 32≤64; omega)
 rw [Nat.div_eq_of_lt (by omega)] at e
 exact e
theorem zPF {n:Nat} (h:n<4294967296):sN .u64 (n:Int) 4294967295=(n:Int):=by
 have e:sN .u64 (n:Int) ((4294967295:Nat):Int)=((n&&&4294967295:Nat):Int):=by
  unfold sN
  have:=Nat.and_le_left (n:=n) (m:=4294967295)
  rw [BitVec.toNat_and,sJ (by show n<2 ^ 64; omega),sJ (by show 4294967295<2 ^ 64; omega),Zt (by omega)]
 rw [show (4294967295:Nat)=2 ^ 32 - 1 from O,Nat.and_two_pow_sub_one_eq_mod,Nat.mod_eq_of_lt (by omega)] at e
 exact e
theorem mul_one {n:Nat} (h:n<4294967296):mS 1 (n:Int)=some (0,(n:Int)):=by
 unfold mS oV
 have h1:rM .u64 1 32=0:=zQM (n:=1) (by omega)
 have h2:sN .u64 1 4294967295=1:=zPF (n:=1) (by omega)
 have h0:rM .u64 0 32=0:=zQM (n:=0) (by omega)
 have h3:sN .u64 0 4294967295=0:=zPF (n:=0) (by omega)
 have w0:wrap .u64 0=0:=iD (by omega) (by omega)
 have wn:wrap .u64 (n:Int)=(n:Int):=iD (by omega) (by omega)
 simp only [h1,h2,zQM h,zPF h,Int.mul_zero,Int.zero_mul,Int.one_mul,w0,wn,h0,h3,Int.add_zero,Int.zero_add,AA]
def Oa:Int × List Int→Option (uN (Int × List Int) (List Int)):=
 (fun (s1:Int × List Int)=>bif decide (s1.1<(s1.2.length:Int)) then (bnd (tD s1.2.length s1.1 (s1.2.length:Int)) fun n1=>bnd (tD s1.2.length 0 s1.1) fun n2=>bnd (Go.Proofs.YtplchdlgdjcojaaGreatDoor.sub s1.2 ((Int.toNat 0:Nat):Int) ((Int.toNat 0+n2:Nat):Int)) fun l3=>bnd (eB s1.2 (Int.toNat s1.1) n1 l3) fun l4=>some (.next (wrap .i64 (s1.1+((min l3.length n1:Nat):Int)),l4))) else (some (.done s1.2)))
theorem zQY {n:Nat} (hn:n≤1000000) (s:Int × List Int) (hI:∃ (j m:Nat),s=((j:Int),List.replicate j 255++List.replicate m 0)∧1≤j∧j+m=n):(∃ s',Oa s=some (.next s')∧(∃ (j m:Nat),s'=((j:Int),List.replicate j 255++List.replicate m 0)∧1≤j∧j+m=n)∧(n:Int) - s'.1<n - s.1∧s'.1≤n)∨∃ t,Oa s=some (.done t)∧t=List.replicate n 255:=by
 obtain ⟨j,m,rfl,h1,h2⟩:=hI
 unfold Oa
 have hl:(List.replicate j (255:Int)++List.replicate m 0).length=j+m:=by simp
 simp only [hl]
 by_cases hm:m=0
 ·right
  subst hm
  rw [zX (by simp)]
  refine ⟨_,O,?_⟩
  rw [←h2]; simp
 ·left
  rw [yF (by simp; omega)]
  have e1:tD (j+m) (j:Int) ((j+m:Nat):Int)=some m:=by
   unfold tD
   rw [if_pos (by omega)]
   congr 1
   omega
  have e2:tD (j+m) 0 (j:Int)=some j:=by
   unfold tD
   rw [if_pos (by omega)]
   simp
  rw [e1,AA,e2,AA]
  have e3:Go.Proofs.YtplchdlgdjcojaaGreatDoor.sub (List.replicate j (255:Int)++List.replicate m 0) ((Int.toNat 0:Nat):Int) ((Int.toNat 0+j:Nat):Int)=some (List.replicate j 255):=by
   rw [show Int.toNat 0=0 from O,lR (by omega) (by rw [hl]; omega)]
   simp
  rw [e3,AA]
  have e4:eB (List.replicate j (255:Int)++List.replicate m 0) (j:Int).toNat m (List.replicate j 255)=some (List.replicate (j+min j m) 255++List.replicate (m - min j m) 0):=by
   unfold eB
   rw [Int.toNat_natCast,if_pos (by rw [hl]; omega)]
   congr 1
   simp only [List.length_replicate,List.take_replicate]
   rw [List.take_append_of_le_length (by simp),List.drop_append,List.drop_eq_nil_of_le (by simp),List.take_of_length_le (by simp)]
   simp only [List.length_replicate,List.nil_append,List.drop_replicate,List.replicate_append_replicate]
   congr 1
   ·congr 1; omega
   ·congr 1; omega
  rw [e4,AA]
  refine ⟨_,O,⟨j+min j m,m - min j m,?_,by omega,by omega⟩,?_,?_⟩
  ·rw [zZ (by simp; omega) (by simp; omega)]
   simp
  ·simp only [List.length_replicate]
   rw [zZ (by omega) (by omega)]
   omega
  ·simp only [List.length_replicate]
   rw [zZ (by omega) (by omega)]
   omega
theorem zOA {n:Nat} (h1:1≤n) (h2:n≤1000000):uC [255] (n:Int)=some (List.replicate n 255):=by
 unfold uC
 rw [zX (by simp)]
 have e1:wrap .u64 ((([255]:List Int).length:Nat):Int)=1:=iD (by simp) (by simp)
 rw [e1,Zt (by omega),mul_one (by omega),AA]
 simp only
 rw [zX (by simp),xP (by omega)]
 rw [show decide ((n:Int)>9223372036854775807)=false from by simp; omega,AA,zX O]
 have e2:mkS 1 (0:Int) (n:Int) (n:Int)=some (List.replicate n 0):=by
  unfold mkS
  rw [if_pos (by omega)]
  simp
 rw [e2,AA]
 have e3:eB (List.replicate n (0:Int)) 0 (List.replicate n (0:Int)).length [255]=some (List.replicate 1 255++List.replicate (n - 1) 0):=by
  unfold eB
  rw [if_pos (by simp)]
  have e:([255]:List Int).take n= [255]:=List.take_of_length_le (by simp; omega)
  have e':min 1 n=1:=by omega
  simp [e,e']
 rw [e3,AA]
 have hm:((min ([255]:List Int).length (List.replicate n (0:Int)).length:Nat):Int)=((1:Nat):Int):=by
  simp; omega
 rw [hm]
 obtain ⟨t,h3,h4⟩:=Qv (m:=Oa) (fun s=>(∃ (j m:Nat),s=((j:Int),List.replicate j 255++List.replicate m 0)∧1≤j∧j+m=n)∧s.1≤n) (fun s=>((n:Int) - s.1).toNat) (fun t=>t=List.replicate n 255) (fun s hs=>by
  rcases zQY h2 s hs.1 with ⟨s',a,b,c,d⟩ | h
  ·exact .inl ⟨s',a,⟨b,d⟩,by omega⟩
  ·exact .inr h) (((1:Nat):Int),List.replicate 1 255++List.replicate (n - 1) 0) ⟨⟨1,n - 1,O,by omega,by omega⟩,by simp; omega⟩
 show bnd (yC Oa _) _=_
 rw [h3,h4]
 rfl
def lP (n m:Nat):zA:=⟨(m:Int),List.replicate (n*m) 255,List.replicate n 0,0,0,0,false⟩
theorem zTt {n m:Nat} (hn:1≤n∧n≤16) (hm:64≤m∧m≤1024):uJ (n:Int) (m:Int)=some (some (lP n m),0):=by
 unfold uJ
 rw [zX (by simp; omega),zX (by simp; omega),zX (by simp; omega),show decide ((m:Int)>1024)=false from by simp; omega,AA,zX O]
 have h1:n*m≤16*1024:=Nat.mul_le_mul hn.2 hm.2
 have h2:1*64≤n*m:=Nat.mul_le_mul hn.1 hm.1
 have e:(n:Int)*(m:Int)=((n*m:Nat):Int):=by simp
 rw [e,xP (by omega),zOA (by omega) (by omega),AA]
 have e2:mkS 8 (0:Int) (n:Int) (n:Int)=some (List.replicate n 0):=by
  unfold mkS
  rw [if_pos (by omega)]
  simp
 rw [e2]
 rfl
theorem zRj {n m:Nat} (hn:1≤n∧n≤16) (hm:64≤m∧m≤1024):FV (lP n m):=⟨by show 64≤(m:Int)∧(m:Int)≤1024; omega,by show 1≤(List.replicate n (0:Int)).length∧(List.replicate n (0:Int)).length≤16; simpa using hn,by show ((List.replicate (n*m) (255:Int)).length:Int)=((List.replicate n (0:Int)).length:Int)*(m:Int); simp,DN.rep (by omega),by show (0:Int)≤0∧(0:Int)≤255; omega,by show (0:Int)≤0∧(0:Int)≤9223372036854775807; omega⟩
theorem zHG {n m k:Nat} (h:k<n):yZ (lP n m) k=List.replicate m 255:=by
 unfold yZ lP
 simp only [Int.toNat_natCast,List.drop_replicate,List.take_replicate]
 have:(k+1)*m≤n*m:=Nat.mul_le_mul (by omega) (Nat.le_refl m)
 rw [Nat.add_mul] at this
 congr 1
 omega
theorem zNm {m:Nat} (h:5≤m):tV (List.replicate m 255)=none:=by
 refine Nz ?_
 rw [List.getD_eq_getElem?_getD,List.getElem?_replicate,if_pos (by omega)]
 simp
theorem zDH {n m f:Nat} (hm:5≤m) (h:f+1<n):DK (lP n m) f=os0:=by
 rw [oH,zHG (by omega),zHG h,zGy (zNm hm) (zNm hm)]
theorem Am {i:Nat} (h:i≤1000000000):wrap .i64 ((i:Int)+1)=((i+1:Nat):Int):=by
 rw [zZ (by omega) (by omega)]; rfl
theorem zRt (x y:zD):x=y↔x.Key=y.Key∧x.Delete=y.Delete∧x.Value=y.Value:=by
 cases x; cases y; simp only [zD.mk.injEq]
 exact ⟨fun h=>⟨h.1,h.2.2,h.2.1⟩,fun h=>⟨h.1,h.2.2,h.2.1⟩⟩
instance:DecidableEq zD:=fun x y=>decidable_of_iff _ (zRt x y).symm
theorem zQO {l:List Int} (hl:l.length≤1000000):sD l=some l:=by
 unfold sD
 refine wH (fun i=>(l.take i,(i:Int))) l.length l O (fun i hi=>?_) ?_ O
 ·simp only
  rw [yF (by simpa using hi),xJ hi,AA,vE (by simp; omega) (by simp; omega),AA,Am (by omega),List.take_append_getElem hi]
 ·simp only
  rw [zX (by simp)]
  simp
def okV (l:List zD):Prop:=l.length≤1000000∧∀ x∈l,x.Value.length≤1000000
theorem zUD {l:List zD} (hl:okV l):gP l=some l:=by
 unfold gP
 have:=hl.1
 refine wH (fun i=>(l.take i,(i:Int))) l.length l O (fun i hi=>?_) ?_ O
 ·simp only
  rw [yF (by simpa using hi),xJ hi,AA,zQO (hl.2 _ (List.getElem_mem hi)),AA]
  have e:(⟨l[i].Key,l[i].Value,l[i].Delete⟩:zD)=l[i]:=rfl
  rw [e,vE (by simp; omega) (by simp; omega),AA,Am (by omega),List.take_append_getElem hi]
 ·simp only
  rw [zX (by simp)]
  simp
def TN (c:zD):Bool→List zD→List zD
 | true,r=>r.filter fun x=>x.Key != c.Key
 | false, []=> [c]
 | false,x::r=>if c.Key<x.Key then c::x::r.filter (fun x=>x.Key != c.Key) else if x.Key≠c.Key then x::TN c false r else c::r.filter fun x=>x.Key != c.Key
def Ap (BO:List zD) (JV:zD):List zD × Bool × Int→Option (uN (List zD × Bool × Int) (List zD × Bool)):=
 (fun (s1:List zD × Bool × Int)=>bif decide (s1.2.2<(BO.length:Int)) then (bnd ((bnd ((bif !s1.2.1 then (bnd (BP BO s1.2.2) fun x1=>some (decide (JV.Key<x1.Key))) else (some false):Option Bool)) fun o3=>bif o3 then (bnd (app 40 s1.1 [JV]) fun l1=>some (l1,true)) else (some (s1.1,s1.2.1)):Option (List zD × Bool))) fun o2=>bnd (BP BO s1.2.2) fun x2=>bif (x2.Key != JV.Key) then (bnd (app 40 o2.1 [x2]) fun l2=>some (.next (l2,o2.2,wrap .i64 (s1.2.2+1)))) else (bif !o2.2 then (bnd (app 40 o2.1 [JV]) fun l3=>some (.next (l3,true,wrap .i64 (s1.2.2+1)))) else (some (.next (o2.1,o2.2,wrap .i64 (s1.2.2+1)))))) else (some (.done (s1.1,s1.2.1))))
theorem zKT {K:List zD} (hK:K.length≤1000000) (c:zD):∀ (r:List zD) (i:Nat) (o:List zD) (d:Bool),K.drop i=r→i+r.length=K.length→o.length≤i+1→(d=false→o.length≤i)→∃ o' d',yC (Ap K c) (o,d,(i:Int))=some (o',d')∧o'.length≤K.length+1∧(if d'=true then o' else o'++ [c])=o++TN c d r
 | [],i,o,d,h1,h2,h3,h3'=>by
  simp only [List.length_nil] at h2
  refine ⟨o,d,yR ?_,by omega,?_⟩
  ·unfold Ap
   simp only
   rw [zX (by simp; omega)]
  ·cases d <;> simp [TN]
 | x::r,i,o,d,h1,h2,h3,h3'=>by
  simp only [List.length_cons] at h2
  have hi:i<K.length:=by omega
  have hx:K[i]=x:=by
   have:=List.getElem?_drop (xs:=K) (i:=i) (j:=0)
   rw [h1] at this
   simp only [List.getElem?_cons_zero,Nat.add_zero,List.getElem?_eq_getElem hi] at this
   exact (Option.some.inj this).symm
  have hr:K.drop (i+1)=r:=by rw [←List.drop_drop,h1]; rfl
  have happ:∀ (q:List zD) (y:zD),q.length≤i+2→app 40 q [y]=some (q++ [y]):=fun q y hq=>vE (by simp; omega) (by simp; omega)
  have step:∀ s',Ap K c (o,d,(i:Int))=some (.next s')→(∃ o2 d2,s'=(o2,d2,((i+1:Nat):Int))∧o2.length≤i+2∧(d2=false→o2.length≤i+1)∧o2++TN c d2 r=o++TN c d (x::r))→∃ o' d',yC (Ap K c) (o,d,(i:Int))=some (o',d')∧o'.length≤K.length+1∧(if d'=true then o' else o'++ [c])=o++TN c d (x::r):=by
   intro s' h4 ⟨o2,d2,h5,h6,h6',h7⟩
   subst h5
   obtain ⟨o',d',h8,h9,h10⟩:=zKT hK c r (i+1) o2 d2 hr (by omega) (by omega) h6'
   exact ⟨o',d',xO h4 h8,h9,by rw [h10,h7]⟩
  unfold Ap at step
  simp only at step
  rw [yF (by simpa using hi),xJ hi,hx,Am (by omega),AA] at step
  cases d with
  | true=>
   rw [zX (by rfl),AA,zX O,AA,AA] at step
   by_cases hk:x.Key=c.Key
   ·rw [zX (by simp [hk]),zX (by rfl)] at step
    exact step _ O ⟨o,true,by simp,by omega,by simp,by simp [TN,hk]⟩
   ·rw [yF (by simp [hk]),happ _ _ (by first | omega | (simp only; omega)),AA] at step
    exact step _ O ⟨o++ [x],true,by simp,by simp; omega,by simp,by simp [TN,hk]⟩
  | false=>
   rw [yF (by rfl),AA] at step
   by_cases hlt:c.Key<x.Key
   ·rw [yF (by simp [hlt]),happ _ _ (by first | omega | (simp only; omega)),AA,AA,AA] at step
    have hk:¬ x.Key=c.Key:=by omega
    rw [yF (by simp [hk]),happ _ _ (by simp; omega),AA] at step
    have:=h3' O
    exact step _ O ⟨o++ [c]++ [x],true,by simp,by simp; omega,by simp,by simp [TN,hlt]⟩
   ·rw [zX (by simp [hlt]),AA,AA] at step
    by_cases hk:x.Key=c.Key
    ·rw [zX (by simp [hk]),yF (by rfl),happ _ _ (by first | omega | (simp only; omega)),AA] at step
     exact step _ O ⟨o++ [c],true,by simp,by simp; omega,by simp,by simp [TN,hlt,hk]⟩
    ·rw [yF (by simp [hk]),happ _ _ (by first | omega | (simp only; omega)),AA] at step
     exact step _ O ⟨o++ [x],false,by simp,by simp; omega,fun _=>by simp; exact h3' O,by simp [TN,hlt,hk]⟩
theorem aF {c:zD} {r:List zD} {p:zD→Bool} (h:∀ x∈r,p x=true):r.filter p=r:=List.filter_eq_self.2 h
theorem zIv {r:List zD} {p:zD→Bool} (h:∀ x∈r,p x=false):r.filter p= []:=List.filter_eq_nil_iff.2 fun x hx=>by simp [h x hx]
theorem zJX {c:zD}:∀ {K:List zD},Asc K→TN c false K=(K.filter fun x=>decide (x.Key<c.Key))++c::K.filter fun x=>decide (c.Key<x.Key)
 | [],_=>rfl
 | x::r,h=>by
  have hp:=List.pairwise_cons.1 h
  unfold TN
  by_cases h1:c.Key<x.Key
  ·rw [if_pos h1,List.filter_cons,List.filter_cons,if_neg (by simp; omega),if_pos (by simpa using h1),zIv (p:=fun x=>decide (x.Key<c.Key)) (fun y hy=>by have:=hp.1 y hy; simp; omega),aF (c:=c) (p:=fun x=>x.Key != c.Key) (fun y hy=>by have:=hp.1 y hy; simp; omega),aF (c:=c) (p:=fun x=>decide (c.Key<x.Key)) (fun y hy=>by have:=hp.1 y hy; simp; omega)]
   rfl
  ·rw [if_neg h1]
   by_cases h2:x.Key=c.Key
   ·rw [if_neg (by simpa using h2),List.filter_cons,List.filter_cons,if_neg (by simp; omega),if_neg (by simpa using h1),zIv (p:=fun x=>decide (x.Key<c.Key)) (fun y hy=>by have:=hp.1 y hy; simp; omega),aF (c:=c) (p:=fun x=>x.Key != c.Key) (fun y hy=>by have:=hp.1 y hy; simp; omega),aF (c:=c) (p:=fun x=>decide (c.Key<x.Key)) (fun y hy=>by have:=hp.1 y hy; simp; omega)]
    rfl
   ·rw [if_pos h2,List.filter_cons,List.filter_cons,if_pos (by simp; omega),if_neg (by simpa using h1),zJX hp.2]
    rfl
theorem zRG {c:zD} {K:List zD} (h:Asc K):TN c c.Delete K=JK K c:=by
 unfold JK
 cases hd:c.Delete
 ·rw [if_neg (by simp)]
  exact zJX h
 ·rw [if_pos O]
  cases K <;> rfl
theorem zLg {K:List zD} (h:Asc K) (hK:K.length≤1000000) (c:zD):qM K c=some (JK K c):=by
 obtain ⟨o,d,h1,h2,h3⟩:=zKT hK c K 0 [] c.Delete rfl (by simp) (by simp) (by simp)
 rw [zRG h,List.nil_append] at h3
 unfold qM
 show bnd (yC (Ap K c) _) _=_
 rw [show (([],c.Delete,0):List zD × Bool × Int)=([],c.Delete,((0:Nat):Int)) from O,h1,AA,←h3]
 cases d
 ·simp only [Bool.not_false,cond_true]
  rw [vE (by simp; omega) (by simp; omega)]
  rfl
 ·rfl
theorem zKx (K:List zD) (c:zD):(JK K c).length≤K.length+1:=by
 unfold JK
 split
 ·have:=List.length_filter_le (fun x:zD=>x.Key != c.Key) K; omega
 ·rw [List.length_append,List.length_cons]
  have e:∀ L:List zD,(L.filter fun x=>decide (x.Key<c.Key)).length+(L.filter fun x=>decide (c.Key<x.Key)).length≤L.length:=fun L=>by
   induction L with
   | nil=>simp
   | cons x r ih=>
    rw [List.filter_cons,List.filter_cons,List.length_cons]
    by_cases h1:x.Key<c.Key
    ·rw [if_pos (by simpa using h1),if_neg (by simp; omega),List.length_cons]; omega
    ·rw [if_neg (by simpa using h1)]
     split
     ·rw [List.length_cons]; omega
     ·omega
  have:=e K
  omega
theorem zKv:∀ (l K:List zD),(wC K l).length≤K.length+l.length
 | [],K=>by simp [wC]
 | c::l,K=>by
  have h1:=zKv l (JK K c)
  have h2:=zKx K c
  unfold wC at h1 ⊢
  rw [List.foldl_cons,List.length_cons]
  omega
theorem zNO {K l:List zD} {i:Nat} (h:i<l.length):JK (wC K (l.take i)) l[i]=wC K (l.take (i+1)):=by
 unfold wC
 rw [←List.take_append_getElem h,List.foldl_append]
 rfl
theorem zEj {K l:List zD} (h:Asc K) (hK:K.length+l.length≤1000000):pH K l=some (wC K l):=by
 unfold pH
 refine wH (fun i=>(wC K (l.take i),(i:Int))) l.length (wC K l) O (fun i hi=>?_) ?_ O
 ·simp only
  have:=zKv (l.take i) K
  rw [List.length_take] at this
  rw [yF (by simpa using hi),xJ hi,AA,zLg (Vq h) (by omega),AA,Am (by omega),zNO hi]
 ·simp only
  rw [zX (by simp),List.take_length]
theorem zTM (s:zE) (k:Int) (v:List Int) (d:zA):xQ s k v d=yT s [⟨k,v,false⟩] d:=by
 unfold xQ
 cases yT s [⟨k,v,false⟩] d <;> rfl
def toF (d:zA):yD:=⟨d.size,d.bytes,d.BD,d.steps,d.left,d.BQ,d.down⟩
theorem zRw {d:zA} (h:FV d) (at_ n:Int):pT (toF d) at_ n=some (decide (0≤at_∧at_≤d.bytes.length∧0≤n∧n≤d.bytes.length - at_)):=by
 have hb:=h.bound
 unfold pT
 show bnd (bif decide (at_≥0) then (bif decide (n≥0) then (bif decide (at_≤(d.bytes.length:Int)) then (some (decide (n≤(wrap .i64 ((d.bytes.length:Int) - at_))))) else (some false)) else (some false)) else (some false)) _=_
 by_cases h1:at_≥0
 ·rw [yF (by simpa using h1)]
  by_cases h3:n≥0
  ·rw [yF (by simpa using h3)]
   by_cases h2:at_≤(d.bytes.length:Int)
   ·rw [yF (by simpa using h2),AA,zZ (by omega) (by omega)]
    congr 1
    rw [decide_eq_decide]
    omega
   ·rw [zX (by simpa using h2),AA]
    congr 1
    symm
    rw [decide_eq_false_iff_not]
    omega
  ·rw [zX (by simpa using h3),AA]
   congr 1
   symm
   rw [decide_eq_false_iff_not]
   omega
 ·rw [zX (by simpa using h1),AA]
  congr 1
  symm
  rw [decide_eq_false_iff_not]
  omega
theorem zKV {d:zA} (h:FV d) (hd:d.down=false):wW (toF d)=some (toF (yP d).1,(yP d).2):=by
 have hl:=h.left
 unfold wW yP
 simp only [toF,hd]
 by_cases h0:d.left=0
 ·rw [yF (by simpa using h0),if_neg (by omega)]
 ·rw [zX (by simpa using h0),if_pos (by omega),zZ (by omega) (by omega)]
  by_cases h1:d.left - 1>0
  ·rw [yF (by simpa using h1)]
   have:(d.left - 1==0)=false:=by simp; omega
   simp only [this]
  ·rw [zX (by simpa using h1)]
   have:(d.left - 1==0)=true:=by simp; omega
   simp only [this]
def cW (CW:Int) (FN:List Int):yD × Int→Option (uN (yD × Int) ((yD × Int) ⊕ yD)):=
 (fun (s1:yD × Int)=>bif decide (s1.2<(FN.length:Int)) then (bnd (wW s1.1) fun r2=>bif r2.2 then (bnd (BP r2.1.Data (wrap .i64 (CW+s1.2))) fun x1=>bnd (BP r2.1.Data (wrap .i64 (CW+s1.2))) fun x2=>bnd (BP FN s1.2) fun x3=>bnd (BP r2.1.Data (wrap .i64 (CW+s1.2))) fun x4=>bnd (rJ r2.1.Data (wrap .i64 (CW+s1.2)) (sN .u8 x2 (FK .u8 x3 r2.1.JL))) fun l1=>some (.done (.inl ((⟨r2.1.Size,l1,r2.1.DT,r2.1.Steps,r2.1.Left,r2.1.JL,r2.1.Down⟩:yD),10)))) else (bnd (BP r2.1.Data (wrap .i64 (CW+s1.2))) fun x5=>bnd (BP r2.1.Data (wrap .i64 (CW+s1.2))) fun x6=>bnd (BP FN s1.2) fun x7=>bnd (BP r2.1.Data (wrap .i64 (CW+s1.2))) fun x8=>bnd (rJ r2.1.Data (wrap .i64 (CW+s1.2)) (sN .u8 x6 x7)) fun l2=>some (.next ((⟨r2.1.Size,l2,r2.1.DT,r2.1.Steps,r2.1.Left,r2.1.JL,r2.1.Down⟩:yD),wrap .i64 (s1.2+1))))) else (some (.done (.inr s1.1))))
def Wh (r:zA × Int):(yD × Int) ⊕ yD:=if r.2=0 then .inr (toF r.1) else .inl (toF r.1,r.2)
theorem zFQ (at_:Nat) (b:List Int) (hr:DN b):∀ (rest:List Int) (j:Nat) (d:zA),FV d→d.down=false→b.drop j=rest→j+rest.length=b.length→at_+b.length≤d.bytes.length→
  yC (cW (at_:Int) b) (toF d,(j:Int))=some (Wh (qN d (at_+j) rest))
 | [],j,d,hd,hdn,h1,h2,h3=>by
  refine yR ?_
  unfold cW
  simp only [List.length_nil] at h2
  rw [zX (by simp; omega)]
  rfl
 | x::rest,j,d,hd,hdn,h1,h2,h3=>by
  have hb:=hd.bound
  simp only [List.length_cons] at h2
  have hj:j<b.length:=by omega
  have hx:b[j]=x:=by
   have:=List.getElem_cons_drop (h:=hj)
   rw [h1] at this
   exact (List.cons.inj this).1
  have hrest:b.drop (j+1)=rest:=by
   have:=List.getElem_cons_drop (h:=hj)
   rw [h1] at this
   exact (List.cons.inj this).2
  have hxr:=hr x (by rw [←hx]; exact List.getElem_mem hj)
  have hi:at_+j<(toF (yP d).1).Data.length:=by simp only [toF,xS]; omega
  have hw:wrap .i64 ((at_:Int)+(j:Int))=((at_+j:Nat):Int):=by rw [zZ (by omega) (by omega)]; omega
  have hstep:cW (at_:Int) b (toF d,(j:Int))=some (if (yP d).2 then .done (.inl (toF (NU (yP d).1 (at_+j) (sN .u8 (d.bytes.getD (at_+j) 0) (FK .u8 x d.BQ))),10)) else .next (toF (NU (yP d).1 (at_+j) (sN .u8 (d.bytes.getD (at_+j) 0) x)),((j+1:Nat):Int))):=by
   unfold cW
   simp only
   rw [yF (by simp; omega),zKV hd hdn,AA]
   cases hf:(yP d).2
   ·rw [cond_false,hw,mE hi,AA,AA,xJ hj,hx,AA,AA,iM hi,AA,yQ hj (by omega),if_neg (by decide)]
    simp only [NU,toF,xS]
   ·rw [cond_true,hw,mE hi,AA,AA,xJ hj,hx,AA,AA,iM hi,AA,if_pos O]
    simp only [NU,toF,xS,sT]
  cases hf:(yP d).2
  ·rw [hf] at hstep
   refine xO hstep ?_
   have:=zFQ at_ b hr rest (j+1) (NU (yP d).1 (at_+j) (sN .u8 (d.bytes.getD (at_+j) 0) x)) (Me (iA hd) _ (Vl (hd.DN.get _) hxr)) (by simp only [NU]; rw [bM hdn,hf]) hrest (by omega) (by simp [NU,xS]; omega)
   rw [this]
   conv=>rhs; unfold qN
   rw [if_neg (by rw [hf]; decide)]
   rfl
  ·rw [hf] at hstep
   rw [yR hstep]
   conv=>rhs; unfold qN
   rw [if_pos hf]
   simp only [Wh]
   rw [if_neg (by decide)]
theorem zIQ (r:zA × Int) (h:r.2=0∨r.2=10):(xL (Wh r) fun o2=>some (o2,0))=some (toF r.1,r.2):=by
 unfold Wh
 rcases h with h | h
 ·rw [if_pos h,DZ,←h]
 ·rw [if_neg (by rw [h]; decide),JR]
theorem fJ {d:zA} (h:FV d) {b:List Int} (hb:DN b) (at_:Int):xT (toF d) at_ b=some (toF (zW d at_ b).1,(zW d at_ b).2):=by
 unfold xT zW
 rw [show (toF d).Down=d.down from O]
 cases hd:d.down
 ·rw [cond_false,zRw h,AA]
  by_cases hw:0≤at_∧at_≤d.bytes.length∧0≤(b.length:Int)∧(b.length:Int)≤d.bytes.length - at_
  ·rw [if_neg (by simp),if_pos hw,zX (by simp only [hw,decide_true]; rfl)]
   have:=zFQ at_.toNat b hb b 0 d h hd O (by omega) (by omega)
   have e:((at_.toNat:Nat):Int)=at_:=by omega
   rw [e] at this
   unfold cW at this
   exact uL this (zIQ _ (dS b d _))
  ·rw [if_neg (by simp),if_neg hw,yF (by rw [decide_eq_false hw]; rfl)]
 ·rw [cond_true,if_pos O]
theorem zEi {d:zA} (h:FV d) (s:Int) (hs:s≤4611686018427387904):qR (toF d) s=some (toF (vF d s).1,(vF d s).2):=by
 have hb:=h.bound
 unfold qR vF
 rw [show (toF d).Down=d.down from O,show (toF d).DT=d.BD from O]
 cases hd:d.down
 ·rw [cond_false,if_neg (by simp)]
  by_cases hs0:s<0
  ·rw [yF (by simpa using hs0),AA,cond_true,if_pos (.inl hs0)]
  ·rw [zX (by simpa using hs0),AA]
   by_cases hs1:s≥d.BD.length
   ·rw [yF (by simpa using hs1),if_pos (.inr hs1)]
   ·rw [zX (by simpa using hs1),if_neg (by omega)]
    obtain ⟨k,rfl⟩:∃ k:Nat,s=(k:Int):=⟨s.toNat,by omega⟩
    have hk:k<d.BD.length:=by omega
    have aCF:=h.BD
    have hok:=iA (Nc h k)
    have hst:wW (⟨(toF d).Size,(toF d).Data,d.BD.set k (wrap .i64 (d.BD.getD k 0+1)),(toF d).Steps,(toF d).Left,(toF d).JL,false⟩:yD)=some (toF (yP (JF d k)).1,(yP (JF d k)).2):=by
     rw [←zKV (Nc h k) (by exact hd)]
     simp only [JF,toF,hd]
    rw [mE hk,AA,iM hk,AA,hst,AA]
    have hz:=h.size
    obtain ⟨z,hzz⟩:∃ z:Nat,d.size=(z:Int):=⟨d.size.toNat,by omega⟩
    have hsz:(yP (JF d k)).1.size=(z:Int):=(mY _).trans hzz
    have hby:(yP (JF d k)).1.bytes=d.bytes:=xS _
    have hT:(yP (JF d k)).1.BQ=d.BQ:=sT _
    have hse:=wP h hk
    rw [hzz] at hse
    have hkz:k*z≤16384:=by
     have:((z:Int)).toNat=z:=rfl
     rw [this] at hse
     omega
    have aCG:k*z+z≤d.bytes.length:=hse
    have e1:wrap .i64 ((k:Int)*(z:Int))=((k*z:Nat):Int):=by
     have:(k:Int)*(z:Int)=((k*z:Nat):Int):=by simp
     rw [this,xP (by omega)]
    have e2:wrap .i64 (wrap .i64 ((k:Int)+1)*(z:Int))=((k*z+z:Nat):Int):=by
     rw [zZ (x:=(k:Int)+1) (by omega) (by omega)]
     have:((k:Int)+1)*(z:Int)=((k*z+z:Nat):Int):=by simp [Int.add_mul]
     rw [this,xP (by omega)]
    have e3:(((k*z:Nat):Int)).toNat=k*z:=rfl
    have MW:∀ (v:Int) (j:Nat),j<z→∀ q:yD,q.Data=KF d.bytes (k*z) j v→BP q.Data ((k*z+j:Nat):Int)=some (d.bytes.getD (k*z+j) 0)∧rJ q.Data ((k*z+j:Nat):Int) (FK .u8 (d.bytes.getD (k*z+j) 0) v)=some (KF d.bytes (k*z) (j+1) v):=by
     intro v j hj q hq
     have hlt:k*z+j<d.bytes.length:=by omega
     have hlt2:k*z+j<(KF d.bytes (k*z) j v).length:=by rw [zIE _ _ _ _ (by omega)]; exact hlt
     rw [hq,mE hlt2,zMO v hlt,iM hlt2,zKq v hlt]
     exact ⟨O,O⟩
    have e4:((z:Int)).toNat=z:=rfl
    have e5:((k:Int)).toNat=k:=rfl
    rw [hzz]
    simp only [e4,e5]
    have hS:(toF (yP (JF d k)).1).Size=(z:Int):=hsz
    cases hf:(yP (JF d k)).2
    ·rw [cond_false,hS,e1]
     refine wH (fun j=>(toF (NZ (yP (JF d k)).1 (KF d.bytes (k*z) j 255)),((k*z+j:Nat):Int))) z (toF (NZ (yP (JF d k)).1 (KF d.bytes (k*z) z 255))) ?_ (fun j hj=>?_) ?_ O
     ·rw [zFp,←hby]; rfl
     ·have hS2:(toF (NZ (yP (JF d k)).1 (KF d.bytes (k*z) j 255))).Size=(z:Int):=hsz
      have hr:=MW 255 j hj (toF (NZ (yP (JF d k)).1 (KF d.bytes (k*z) j 255))) O
      have hx:=h.DN.get (k*z+j)
      rw [zSs hx] at hr
      simp only [hS2,e2]
      rw [yF (by simp; omega),hr.1,AA,hr.2,AA,zZ (by omega) (by omega),show ((k*z+j:Nat):Int)+1=((k*z+(j+1):Nat):Int) by omega]
      simp only [toF,NZ,hsz,hT]
     ·have hS2:(toF (NZ (yP (JF d k)).1 (KF d.bytes (k*z) z 255))).Size=(z:Int):=hsz
      simp only [hS2,e2]
      rw [zX (by simp)]
    ·rw [cond_true,hS,e1]
     refine wH (fun j=>(toF (NZ (yP (JF d k)).1 (KF d.bytes (k*z) j d.BQ)),((k*z+j:Nat):Int))) z (toF (NZ (yP (JF d k)).1 (KF d.bytes (k*z) z d.BQ))) ?_ (fun j hj=>?_) ?_ O
     ·rw [zFp,←hby]; rfl
     ·have hS2:(toF (NZ (yP (JF d k)).1 (KF d.bytes (k*z) j d.BQ))).Size=(z:Int):=hsz
      have hT2:(toF (NZ (yP (JF d k)).1 (KF d.bytes (k*z) j d.BQ))).JL=d.BQ:=sT _
      have hr:=MW d.BQ j hj (toF (NZ (yP (JF d k)).1 (KF d.bytes (k*z) j d.BQ))) O
      simp only [hS2,hT2,e2]
      rw [yF (by simp; omega),hr.1,AA,AA,AA,hr.2,AA,zZ (by omega) (by omega),show ((k*z+j:Nat):Int)+1=((k*z+(j+1):Nat):Int) by omega]
      simp only [toF,NZ,hsz,hT]
     ·have hS2:(toF (NZ (yP (JF d k)).1 (KF d.bytes (k*z) z d.BQ))).Size=(z:Int):=hsz
      simp only [hS2,e2]
      rw [zX (by simp)]
 ·rw [cond_true,if_pos O]
theorem zOp {n m:Nat} (hn:1≤n∧n≤16) (hm:64≤m∧m≤1024):tB (n:Int) (m:Int)=some (some (toF (lP n m)),0):=by
 have hnm:n*m≤16*1024:=Nat.mul_le_mul hn.2 hm.2
 unfold tB
 rw [zX (by simp; omega),zX (by simp; omega),zX (by simp; omega),show decide ((m:Int)>1024)=false by simp; omega,AA,zX O]
 have e0:mkS 8 (0:Int) (n:Int) (n:Int)=some (List.replicate n 0):=by
  unfold mkS
  rw [if_pos ⟨by omega,by omega,by omega,by omega⟩]
  simp
 have e1:wrap .i64 ((n:Int)*(m:Int))=((n*m:Nat):Int):=by
  have:(n:Int)*(m:Int)=((n*m:Nat):Int):=by simp
  rw [this,xP (by omega)]
 rw [e0,AA,e1]
 refine wH (fun i=>((⟨(m:Int),List.replicate i 255,List.replicate n 0,0,0,0,false⟩:yD),(i:Int))) (n*m) (toF (lP n m)) O (fun i hi=>?_) ?_ O
 ·simp only
  rw [yF (by simp; omega),vE (by simp; omega) (by simp; omega),AA,Am (by omega),List.replicate_succ']
 ·simp only
  rw [zX (by simp)]
  rfl
theorem iK {b:List Int} (hl:b.length≤1000000):qG b=some (vT b):=by
 unfold qG
 refine gW (fun i=>(i:Int)) b.length (fun i=>b.getD i 255 != 255) (.inl false) (.inr ()) O (fun i hi=>?_) ?_ ?_
 ·rw [yF (by simp; omega),xJ hi,AA,List.getD_eq_getElem?_getD,List.getElem?_eq_getElem hi]
  simp only [Option.getD_some]
  by_cases hb:b[i]=255
  ·rw [zX (by simpa using hb),yQ hi (by omega),zX (by simpa using hb)]
  ·rw [yF (by simpa using hb),yF (by simpa using hb)]
 ·rw [zX (by simp)]
 ·have:(List.range b.length).any (fun i=>b.getD i 255 != 255)=!vT b:=by
   rw [Bool.eq_iff_iff]
   unfold vT
   simp only [List.any_eq_true,List.mem_range,Bool.not_eq_true',List.all_eq_false]
   constructor
   ·rintro ⟨i,hi,h⟩
    rw [List.getD_eq_getElem?_getD,List.getElem?_eq_getElem hi] at h
    exact ⟨b[i],List.getElem_mem hi,by simpa using h⟩
   ·rintro ⟨x,hx,h⟩
    obtain ⟨i,hi,rfl⟩:=List.mem_iff_getElem.1 hx
    exact ⟨i,hi,by rw [List.getD_eq_getElem?_getD,List.getElem?_eq_getElem hi]; simpa using h⟩
  rw [this]
  cases vT b <;> rfl
def prt (b:List Int) (lo n:Nat):List Int:=(b.drop lo).take n
theorem Ob {b:List Int} {lo n:Nat} (h:lo+n≤b.length):(prt b lo n).length=n:=by simp [prt]; omega
theorem Wi {b:List Int} (h:DN b) (lo n:Nat):DN (prt b lo n):=(h.drop lo).take n
theorem zRQ {b:List Int} {lo n i:Nat} (h:i<n):(prt b lo n)[i]? =b[lo+i]?:=by
 unfold prt
 rw [List.getElem?_take,if_pos h,List.getElem?_drop]
theorem Oc {b:List Int} {lo n i:Nat} (h:lo+n≤b.length) (hi:i<n):gM b lo n (i:Int)=some ((prt b lo n).getD i 0):=by
 unfold gM
 rw [if_pos ⟨by omega,by omega⟩,show (lo:Int)+(i:Int)=((lo+i:Nat):Int) by omega,JY,List.getD_eq_getElem?_getD,zRQ hi,List.getElem?_eq_getElem (by omega)]
 rfl
theorem zRD {b:List Int} {lo n i m:Nat} (h:lo+n≤b.length) (hi:i+m≤n):Go.Proofs.YtplchdlgdjcojaaGreatDoor.sub b ((lo+i:Nat):Int) ((lo+i+m:Nat):Int)=some (((prt b lo n).drop i).take m):=by
 rw [lR (by omega) (by omega)]
 congr 1
 unfold prt
 rw [List.drop_take,List.take_take,List.drop_drop]
 congr 1
 omega
theorem zPx {c:List Int} {i:Nat} (h:i+2≤c.length):c.drop i=c.getD i 0::c.getD (i+1) 0::c.drop (i+2):=by
 rw [←List.getElem_cons_drop (h:=(by omega:i<c.length)),←List.getElem_cons_drop (h:=(by omega:i+1<c.length))]
 simp only [List.getD_eq_getElem?_getD,List.getElem?_eq_getElem (by omega:i<c.length),List.getElem?_eq_getElem (by omega:i+1<c.length),Option.getD_some]
def Wj (BF:List Int) (EX:Nat) (FD:Nat):List zD × Int × Int→Option (uN (List zD × Int × Int) (((List zD) × Int × Bool) ⊕ (List zD × Int))):=
 (fun (s1:List zD × Int × Int)=>bnd (gM BF EX FD 0) fun x3=>bif decide (s1.2.2<(wrap .i64 x3)) then (bif decide ((wrap .i64 ((FD:Int) - s1.2.1))<2) then (some (.done (.inl ([],0,false)))) else (bnd (gM BF EX FD s1.2.1) fun x4=>bnd (gM BF EX FD (wrap .i64 (s1.2.1+1))) fun x5=>bnd ((bif ((wrap .i64 x5)==128) then (some (0,true)) else (some (wrap .i64 x5,false)):Option (Int × Bool))) fun o4=>bnd ((bif decide (o4.1>28) then (some true) else (some (decide ((wrap .i64 ((FD:Int) - (wrap .i64 (s1.2.1+2))))<o4.1))):Option Bool)) fun o5=>bif o5 then (some (.done (.inl ([],0,false)))) else (bnd (iZ BF.length EX FD (wrap .i64 (s1.2.1+2)) (wrap .i64 ((wrap .i64 (s1.2.1+2))+o4.1))) fun n1=>bnd (sub BF ((EX+(Int.toNat (wrap .i64 (s1.2.1+2))):Nat):Int) (((EX+(Int.toNat (wrap .i64 (s1.2.1+2))))+n1:Nat):Int)) fun l1=>bnd (sD l1) fun r1=>bnd (qM s1.1 (⟨x4,r1,o4.2⟩:zD)) fun r2=>some (.next (r2,wrap .i64 ((wrap .i64 (s1.2.1+2))+o4.1),wrap .i64 (s1.2.2+1)))))) else (some (.done (.inr (s1.1,s1.2.1)))))
theorem eW {x:Int} (h:0≤x∧x≤1000000000):wrap .i64 x=x:=zZ (by omega) (by omega)
theorem zKh {b:List Int} (hr:DN b) {lo n:Nat} (h:lo+n≤b.length) (hn:n≤16384) (h0:0<n) {K:List zD} (hK:Asc K) (hl:K.length≤1000) {at_ i:Nat} (ha:at_≤n) (hi:i≤1000):
  Wj b lo n (K,(at_:Int),(i:Int))=some (if (i:Int)<(prt b lo n).getD 0 0 then match SH ((prt b lo n).drop at_) with | none=>.done (.inl ([],0,false)) | some (x,m)=>.next (JK K x,((at_+m:Nat):Int),((i+1:Nat):Int)) else .done (.inr (K,(at_:Int)))):=by
 have hc:=Wi hr lo n
 have hL:=Ob h
 generalize hcc:prt b lo n=c at hc hL
 have e0:gM b lo n 0=some (c.getD 0 0):=by rw [←hcc]; exact Oc h (i:=0) h0
 have h0r:=hc.get 0
 unfold Wj
 simp only
 rw [e0,AA,eW (by omega)]
 by_cases hlt:(i:Int)<c.getD 0 0
 ·rw [yF (by simpa using hlt),if_pos hlt,eW (by omega)]
  by_cases h2:(n:Int) - (at_:Int)<2
  ·rw [yF (by simpa using h2)]
   have:c.drop at_= []∨∃ x,c.drop at_= [x]:=by
    have hlen:(c.drop at_).length<2:=by simp; omega
    match hd:c.drop at_,hlen with
    | [],_=>exact .inl O
    | [x],_=>exact .inr ⟨x,O⟩
   rcases this with e | ⟨x,e⟩ <;> rw [e] <;> rfl
  ·have e1:gM b lo n (at_:Int)=some (c.getD at_ 0):=by rw [←hcc]; exact Oc h (by omega)
   have e2:gM b lo n ((at_+1:Nat):Int)=some (c.getD (at_+1) 0):=by rw [←hcc]; exact Oc h (by omega)
   have hr2:=hc.get (at_+1)
   rw [zX (by simpa using h2),e1,AA,eW (x:=(at_:Int)+1) (by omega),show (at_:Int)+1=((at_+1:Nat):Int) by omega,e2,AA,eW (x:=c.getD (at_+1) 0) (by omega),eW (x:=(at_:Int)+2) (by omega),zPx (c:=c) (i:=at_) (by omega),lH,eW (x:=(i:Int)+1) (by omega),eW (x:=(n:Int) - ((at_:Int)+2)) (by omega)]
   have hdl:(c.drop (at_+2)).length=n - (at_+2):=by simp [hL]
   generalize hx:c.getD at_ 0=x
   generalize hy:c.getD (at_+1) 0=y at hr2
   -- what is read
   have hrest:∀ (v:Nat) (D:Bool),at_+2+v≤n→(bnd (iZ b.length lo n ((at_:Int)+2) (wrap .i64 (((at_:Int)+2)+(v:Int)))) fun n1=>bnd (sub b ((lo+(Int.toNat ((at_:Int)+2)):Nat):Int) (((lo+(Int.toNat ((at_:Int)+2)))+n1:Nat):Int)) fun l1=>bnd (sD l1) fun r1=>bnd (qM K (⟨x,r1,D⟩:zD)) fun r2=>some (uN.next (r2,wrap .i64 (((at_:Int)+2)+(v:Int)),(i:Int)+1):uN (List zD × Int × Int) (((List zD) × Int × Bool) ⊕ (List zD × Int))))=some (.next (JK K ⟨x,(c.drop (at_+2)).take v,D⟩,((at_+(2+v):Nat):Int),((i+1:Nat):Int))):=by
    intro v D hv
    rw [eW (by omega),show (at_:Int)+2=((at_+2:Nat):Int) by omega,show ((at_+2:Nat):Int)+(v:Int)=((at_+2+v:Nat):Int) by omega]
    have hp:iZ b.length lo n ((at_+2:Nat):Int) ((at_+2+v:Nat):Int)=some v:=by
     unfold iZ
     rw [if_pos h,if_pos ⟨by omega,by omega,by omega⟩]
     congr 1
     omega
    rw [hp,AA,show Int.toNat ((at_+2:Nat):Int)=at_+2 from O,zRD h (by omega),AA,hcc,zQO (by simp; omega),AA,zLg hK (by omega),AA,show at_+2+v=at_+(2+v) by omega,show (i:Int)+1=((i+1:Nat):Int) by omega]
   by_cases hd:y=128
   ·rw [yF (by simpa using hd),if_pos hd,AA]
    dsimp only
    rw [zX (by decide),AA,zX (by simp; omega)]
    have:=hrest 0 true (by omega)
    rw [show (((0:Nat):Int))=0 from O] at this
    rw [this,List.take_zero]
   ·rw [zX (by simpa using hd),if_neg hd,AA]
    dsimp only
    by_cases hbad:y>28∨((c.drop (at_+2)).length:Int)<y
    ·rw [if_pos hbad]
     by_cases h28:y>28
     ·rw [yF (by simpa using h28),AA,cond_true]
     ·rw [zX (by simpa using h28),AA,yF (by simp; omega)]
    ·rw [if_neg hbad,zX (by simp; omega),AA,zX (by simp; omega)]
     have:=hrest y.toNat false (by omega)
     rw [show ((y.toNat:Nat):Int)=y by omega] at this
     rw [this]
 ·rw [zX (by simpa using hlt),if_neg hlt]
theorem zKN {b:List Int} (hr:DN b) {lo n:Nat} (h:lo+n≤b.length) (hn:n≤16384) (h0:0<n) {q:Nat} (hq:(prt b lo n).getD 0 0=(q:Int)) (aCm:q≤32):∀ (k i at_:Nat) (K:List zD),i+k=q→at_≤n→Asc K→K.length≤32+i→
  yC (Wj b lo n) (K,(at_:Int),(i:Int))=some (match oX k ((prt b lo n).drop at_) with | none=>.inl ([],0,false) | some (l,m)=>.inr (wC K l,((at_+m:Nat):Int)))
 | 0,i,at_,K,hk,ha,hK,hl=>by
  have hs:=zKh hr h hn h0 hK (by omega) ha (i:=i) (by omega)
  rw [hq,if_neg (by omega)] at hs
  exact yR hs
 | k+1,i,at_,K,hk,ha,hK,hl=>by
  have hs:=zKh hr h hn h0 hK (by omega) ha (i:=i) (by omega)
  rw [hq,if_pos (by omega)] at hs
  unfold oX
  cases hcg:SH ((prt b lo n).drop at_) with
  | none=>rw [hcg] at hs; exact yR hs
  | some p=>
   obtain ⟨x,m⟩:=p
   have hm:=Nh ((Wi hr lo n).drop _) hcg
   simp only [List.length_drop,Ob h] at hm
   rw [hcg] at hs
   refine xO hs ?_
   have hlen:=zKx K x
   rw [zKN hr h hn h0 hq aCm k (i+1) (at_+m) (JK K x) (by omega) (by omega) (zGk hK x) (by omega)]
   simp only [List.drop_drop]
   cases hcs:oX k ((prt b lo n).drop (at_+m)) with
   | none=>rfl
   | some p=>
    obtain ⟨l,m'⟩:=p
    simp only [wC,List.foldl_cons]
    rw [Nat.add_assoc]
def zLL (K:List zD) (o:Option (List zD × Nat)):List zD × Int × Bool:=match o with
 | some (l,n)=>if (wC K l).length>32 then ([],0,false) else (wC K l,(n:Int),true)
 | none=>([],0,false)
theorem zTd {b:List Int} (hr:DN b) {lo n:Nat} (h:lo+n≤b.length) (hn:n≤16384) {K:List zD} (hK:Asc K) (hl:K.length≤32):uZ b lo n K=some (zLL K (tR (prt b lo n))):=by
 have hc:=Wi hr lo n
 have hL:=Ob h
 unfold uZ
 by_cases h0:n=0
 ·subst h0
  have:prt b lo 0= []:=by simp [prt]
  rw [this,yF (by decide),AA,cond_true]
  rfl
 ·have e0:gM b lo n 0=some ((prt b lo n).getD 0 0):=Oc h (i:=0) (by omega)
  have h0r:=hc.get 0
  obtain ⟨c,r,hcr⟩:∃ c r,prt b lo n=c::r:=by
   match hp:prt b lo n with
   | []=>rw [hp] at hL; simp at hL; omega
   | c::r=>exact ⟨c,r,O⟩
  have hc0:(prt b lo n).getD 0 0=c:=by rw [hcr]; rfl
  rw [hc0] at e0 h0r
  have hrl:r.length+1=n:=by rw [hcr] at hL; simpa using hL
  rw [zX (by simpa using h0),e0,hcr,rL]
  simp only [AA]
  by_cases hb:c<1∨c>32
  ·rw [if_pos hb]
   by_cases h1:c<1
   ·rw [yF (by simpa using h1),AA,cond_true]; rfl
   ·rw [zX (by simpa using h1),AA,yF (by simp; omega)]; rfl
  ·rw [if_neg hb,zX (by simp; omega),AA,zX (by simp; omega)]
   have hloop:=zKN hr h hn (by omega) (q:=c.toNat) (by rw [hc0]; omega) (by omega) c.toNat 0 1 K (by omega) (by omega) hK (by omega)
   have hd1:(prt b lo n).drop 1=r:=by rw [hcr]; rfl
   rw [hd1] at hloop
   unfold Wj at hloop
   rw [e0] at hloop
   simp only [AA] at hloop
   have e1:(((1:Nat)):Int)=1:=rfl
   have e2:(((0:Nat)):Int)=0:=rfl
   rw [e1,e2] at hloop
   rw [hloop,AA]
   cases hcs:oX c.toNat r with
   | none=>rfl
   | some p=>
    obtain ⟨l,m⟩:=p
    simp only [DZ]
    have hrr:DN r:=by have:=hc.drop 1; rw [hd1] at this; exact this
    have hm:=Vp _ hrr hcs
    by_cases hge:1+m≥n
    ·rw [yF (by simp; omega),AA,cond_true]
     have:r[m]? =none:=List.getElem?_eq_none (by omega)
     rw [this,if_neg (by simp)]
     rfl
    ·rw [zX (by simp; omega),Oc h (i:=1+m) (by omega),AA,hcr]
     have hg:(c::r).getD (1+m) 0=r.getD m 0:=by rw [Nat.add_comm]; rfl
     rw [hg]
     have hrm:r[m]? =some (r.getD m 0):=by rw [List.getD_eq_getElem?_getD,List.getElem?_eq_getElem (by omega)]; rfl
     rw [hrm]
     by_cases hz:r.getD m 0=0
     ·rw [zX (by simpa using hz),AA,if_pos (by rw [hz])]
      simp only [zLL]
      by_cases Oe:(wC K l).length>32
      ·rw [yF (by simp; omega),if_pos Oe]
      ·rw [zX (by simp; omega),if_neg Oe,eW (by omega)]
       have:((1+m:Nat):Int)+1=((m+2:Nat):Int):=by omega
       rw [this]
     ·rw [yF (by simpa using hz),AA,cond_true,if_neg (by simpa using hz)]
      rfl
theorem zNA {x y z t:Int} (hx:0≤x∧x≤255) (hy:0≤y∧y≤255) (hz:0≤z∧z≤255) (ht:0≤t∧t≤255):lT [x,y,z,t]=some (x+256*y+65536*z+16777216*t):=by
 unfold lT
 have hstep:∀ (a b c:Int),0≤a→a<16777216→0≤b∧b≤255→c=b+a*256→wrap .u64 ((wrap .u64 (256*a))+(wrap .u64 b))=c:=fun a b c h0 ha hb hc=>by
  rw [iD (x:=256*a) (by omega) (by omega),iD (x:=b) (by omega) (by omega),iD (by omega) (by omega)]
  omega
 obtain ⟨v2,e2⟩:∃ v,v=z+t*256:=⟨_,rfl⟩
 obtain ⟨v3,e3⟩:∃ v,v=y+v2*256:=⟨_,rfl⟩
 obtain ⟨v4,e4⟩:∃ v,v=x+v3*256:=⟨_,rfl⟩
 rw [show x+256*y+65536*z+16777216*t=v4 by omega]
 have s1:=hstep 0 t t (by omega) (by omega) ht (by omega)
 have s2:=hstep t z v2 (by omega) (by omega) hz (by omega)
 have s3:=hstep v2 y v3 (by omega) (by omega) hy (by omega)
 have s4:=hstep v3 x v4 (by omega) (by omega) hx (by omega)
 refine wH (fun i=>(([0,t,v2,v3,v4].getD i 0:Int),(3:Int) - (i:Int))) 4 v4 O (fun i hi=>?_) O O
 have h3:i=0∨i=1∨i=2∨i=3:=by omega
 rcases h3 with rfl | rfl | rfl | rfl
 ·show some (uN.next (wrap .u64 ((wrap .u64 (256*(0:Int)))+(wrap .u64 t)),_))=_
  rw [s1]
  rfl
 ·show some (uN.next (wrap .u64 ((wrap .u64 (256*t))+(wrap .u64 z)),_))=_
  rw [s2]
  rfl
 ·show some (uN.next (wrap .u64 ((wrap .u64 (256*v2))+(wrap .u64 y)),_))=_
  rw [s3]
  rfl
 ·show some (uN.next (wrap .u64 ((wrap .u64 (256*v3))+(wrap .u64 x)),_))=_
  rw [s4]
  rfl
def jJ (b:List Int):Int:=match tV b with
 | none=>0
 | some (g,_,_)=>g
theorem zHd {b:List Int} (hr:DN b) (h64:64≤b.length):uU b=some (jJ b):=by
 have e4:BP b 4=some (b.getD 4 0):=mE (i:=4) (by omega)
 have es:Go.Proofs.YtplchdlgdjcojaaGreatDoor.sub b 0 4=some [b.getD 0 0,b.getD 1 0,b.getD 2 0,b.getD 3 0]:=by
  have:=lR (l:=b) (a:=0) (b:=4) (by omega) (by omega)
  rw [show (0:Int)=((0:Nat):Int) from O,show (4:Int)=((4:Nat):Int) from O,this]
  congr 1
  match b,h64 with
  | x::y::z::t::r,_=>rfl
 have h0:=hr.get 0
 have h1:=hr.get 1
 have h2:=hr.get 2
 have h3:=hr.get 3
 unfold uU
 rw [es,AA,zNA h0 h1 h2 h3,AA,e4]
 simp only [AA]
 rw [show b.getD 0 0+256*b.getD 1 0+65536*b.getD 2 0+16777216*b.getD 3 0=gL b from O,zZ (by unfold gL; omega) (by unfold gL; omega)]
 unfold jJ tV
 by_cases h4:b.getD 4 0≠0
 ·rw [if_pos (.inl h4),yF (by simpa using h4),AA]; rfl
 ·rw [zX (by simpa using h4)]
  by_cases hg1:gL b<1
  ·rw [if_pos (.inr (.inl hg1)),yF (by simpa using hg1),AA]; rfl
  ·rw [zX (by simpa using hg1),AA]
   by_cases hg2:gL b>2147483648
   ·rw [if_pos (.inr (.inr hg2)),yF (by simpa using hg2)]
   ·rw [if_neg (by simp only [not_or]; exact ⟨h4,hg1,hg2⟩),zX (by simpa using hg2)]
def oB (f:Nat) (o:OS):zH:=⟨true,(f:Int),o.act,o.gen,o.K,o.tail,false⟩
def Wl (d:zA) (base n3:Nat):zH→Option (uN zH ((yD × (Option zH) × Int) ⊕ Unit)):=
 (fun (s1:zH)=>bnd (iZ (toF d).Data.length base n3 s1.Tail ((n3:Nat):Int)) fun n4=>bnd (uZ (toF d).Data (base+(Int.toNat s1.Tail)) n4 s1.Keys) fun r3=>bif !r3.2.2 then (some (.done (.inl (toF d,(some s1),0)))) else (some (.next (⟨s1.F_,s1.First,s1.Active,s1.Gen,r3.1,wrap .i64 (s1.Tail+r3.2.1),s1.KA⟩:zH))))
theorem zKG {d:zA} (h:FV d) {base z:Nat} (hz:base+z≤d.bytes.length) (F A G:Int):∀ (fu t:Nat) (K:List zD),z - t≤fu→t≤z→KW K→
    yC (Wl d base z) (⟨true,F,A,G,K,(t:Int),false⟩:zH)=some (.inl (toF d,some ⟨true,F,A,G,(rR ((prt d.bytes base z).drop t) K t).1,((rR ((prt d.bytes base z).drop t) K t).2:Int),false⟩,0))
  | fu,t,K,hf,ht,hK=>by
    have hb:=h.bound
    have hrd:=(Wi h.DN base z).drop t
    have hpd:prt d.bytes (base+t) (z - t)=(prt d.bytes base z).drop t:=by
      unfold prt
      rw [List.drop_take,List.drop_drop]
    rw [kT hrd]
    have hstep:Wl d base z (⟨true,F,A,G,K,(t:Int),false⟩:zH)=some (match tR ((prt d.bytes base z).drop t) with
        | none=>.done (.inl (toF d,some (⟨true,F,A,G,K,(t:Int),false⟩:zH),0))
        | some (l,n)=>if (wC K l).length>32 then .done (.inl (toF d,some (⟨true,F,A,G,K,(t:Int),false⟩:zH),0)) else .next (⟨true,F,A,G,wC K l,((t+n:Nat):Int),false⟩:zH)):=by
      unfold Wl
      simp only
      have hp:iZ (toF d).Data.length base z (t:Int) (z:Int)=some (z - t):=by
        unfold iZ
        rw [if_pos (by exact hz),if_pos ⟨by omega,by omega,by omega⟩]
        rfl
      rw [hp,AA,show Int.toNat (t:Int)=t from O,show (toF d).Data=d.bytes from O,zTd h.DN (by omega) (by omega) hK.Af hK.len,AA,hpd]
      cases hbt:tR ((prt d.bytes base z).drop t) with
      | none=>rfl
      | some p=>
        obtain ⟨l,n⟩:=p
        have hn:=qJ hrd hbt
        simp only [List.length_drop,Ob hz] at hn
        simp only [zLL]
        by_cases hgt:(wC K l).length>32
        · rw [if_pos hgt,if_pos hgt]; rfl
        · rw [if_neg hgt, if_neg hgt]
          simp only [Bool.not_true,cond_false]
          rw [eW (by omega)]
          rfl
    cases hbt:tR ((prt d.bytes base z).drop t) with
    | none=>
      rw [hbt] at hstep
      exact yR hstep
    | some p=>
      obtain ⟨l,n⟩:=p
      have hn:=qJ hrd hbt
      have hok:=zDI hrd hbt
      simp only [List.length_drop,Ob hz] at hn
      rw [hbt] at hstep
      simp only at hstep ⊢
      split
      · rename_i hgt
        rw [if_pos hgt] at hstep
        exact yR hstep
      · rename_i hgt
        rw [if_neg hgt] at hstep
        match fu,hf with
        | 0,hf=>omega
        | fu+1,hf=>
          rw [List.drop_drop]
          exact xO hstep (zKG h hz F A G fu (t+n) (wC K l) (by omega) (by omega) (hK.all hok.2.2 (by omega)))
theorem zQB (d:zA) (k:Nat):yZ d k=prt d.bytes (k*d.size.toNat) d.size.toNat:=rfl
theorem zLz {d:zA} (h:FV d) (hd:d.down=false) (hz:1024≤d.size) {f:Nat} (hf:f+1<d.BD.length):vH (toF d) (f:Int)=some (toF d,some (oB f (DK d f)),0):=by
 have hb:=h.bound
 have hw:=h.BD
 have hz2:=h.size
 obtain ⟨z,hzz⟩:∃ z:Nat,d.size=(z:Int):=⟨d.size.toNat,by omega⟩
 have TQ:d.size.toNat=z:=by omega
 have hse:∀ k,k<d.BD.length→k*z+z≤d.bytes.length:=fun k hk=>by rw [←TQ]; exact wP h hk
 have hmul:∀ k:Nat,(k:Int)*(z:Int)=((k*z:Nat):Int):=fun k=>by simp
 have hadd:∀ k:Nat,(k+1)*z=k*z+z:=fun k=>by rw [Nat.add_mul,Nat.one_mul]
 have hpart:∀ (i:Nat),f+i<d.BD.length→tD (toF d).Data.length (wrap .i64 ((wrap .i64 ((f:Int)+(i:Int)))*(toF d).Size)) (wrap .i64 ((wrap .i64 ((wrap .i64 ((f:Int)+(i:Int)))+1))*(toF d).Size))=some z∧wrap .i64 ((wrap .i64 ((f:Int)+(i:Int)))*(toF d).Size)=(((f+i)*z:Nat):Int):=by
  intro i hi
  have h1:=hse (f+i) hi
  rw [show (toF d).Size=d.size from O,show (toF d).Data=d.bytes from O,hzz,eW (x:=(f:Int)+(i:Int)) (by omega),eW (x:=(f:Int)+(i:Int)+1) (by omega),show (f:Int)+(i:Int)=((f+i:Nat):Int) by omega,show ((f+i:Nat):Int)+1=((f+i+1:Nat):Int) by omega,hmul,hmul,hadd,eW (by omega),eW (by omega)]
  refine ⟨?_,O⟩
  unfold tD
  rw [if_pos ⟨by omega,by omega,by omega⟩]
  congr 1
  omega
 have hsub:∀ (i:Nat),f+i<d.BD.length→Go.Proofs.YtplchdlgdjcojaaGreatDoor.sub (toF d).Data (((f+i)*z:Nat):Int) (((f+i)*z+z:Nat):Int)=some (yZ d (f+i)):=by
  intro i hi
  have h1:=hse (f+i) hi
  rw [lR (by omega) (by exact h1)]
  congr 1
  unfold yZ
  rw [TQ]
  show (d.bytes.drop ((f+i)*z)).take ((f+i)*z+z - (f+i)*z)=_
  rw [Nat.add_sub_cancel_left]
 have hgen:∀ (i:Nat),f+i<d.BD.length→uU (yZ d (f+i))=some (jJ (yZ d (f+i))):=fun i hi=>
  zHd (qZ h _) (by rw [sP h hi]; omega)
 obtain ⟨p0,q0⟩:=hpart 0 (by omega)
 obtain ⟨p1,q1⟩:=hpart 1 (by omega)
 have e0:((0:Nat):Int)=0:=rfl
 have e1:((1:Nat):Int)=1:=rfl
 rw [e0] at p0 q0
 rw [e1] at p1 q1
 unfold vH
 rw [zX (by simp <;> omega),AA,show (toF d).DT=d.BD from O,zZ (x:=(d.BD.length:Int) - 1) (by omega) (by omega),zX (by simp <;> omega),zX (by show decide (d.size<1024)=false; simp; omega),zX (by exact hd)]
 rw [p0,AA,q0]
 have t0:Int.toNat (((f+0)*z:Nat):Int)=(f+0)*z:=rfl
 have t1:Int.toNat (((f+1)*z:Nat):Int)=(f+1)*z:=rfl
 rw [t0,hsub 0 (by omega),AA,hgen 0 (by omega),AA]
 have ho2:(bif decide (jJ (yZ d (f+0))>0) then some (⟨true,(f:Int),0,jJ (yZ d (f+0)), [],0,false⟩:zH) else some (⟨true,(f:Int),(-1),0, [],0,false⟩:zH))=some (if jJ (yZ d (f+0))>0 then (⟨true,(f:Int),0,jJ (yZ d (f+0)), [],0,false⟩:zH) else (⟨true,(f:Int),(-1),0, [],0,false⟩:zH)):=by
  by_cases hg:jJ (yZ d (f+0))>0
  ·rw [yF (by simpa using hg),if_pos hg]
  ·rw [zX (by simpa using hg),if_neg hg]
 rw [ho2,AA,p1,AA,q1,t1,hsub 1 hf,AA,hgen 1 hf,AA]
 -- the rest
 have hrest:∀ (i:Nat) (g:Int) (K:List zD) (t:Nat),i<2→tV (yZ d (f+i))=some (g,K,t)→
   bnd (tD (toF d).Data.length (wrap .i64 ((wrap .i64 ((f:Int)+(i:Int)))*(toF d).Size)) (wrap .i64 ((wrap .i64 ((wrap .i64 ((f:Int)+(i:Int)))+1))*(toF d).Size))) (fun n3=>bnd (yC (Wl d (Int.toNat (wrap .i64 ((wrap .i64 ((f:Int)+(i:Int)))*(toF d).Size))) n3) (⟨true,(f:Int),(i:Int),g, [],5,false⟩:zH)) fun o4=>xL o4 fun o5=>none)=some (toF d,some (oB f (UJ (i:Int) (yZ d (f+i)) g K t)),0):=by
  intro i g K t hi hs
  obtain ⟨_,_,_,_,hk⟩:=mH hs
  obtain ⟨pi,qi⟩:=hpart i (by omega)
  have h1:=hse (f+i) (by omega)
  rw [pi,AA,qi,show Int.toNat (((f+i)*z:Nat):Int)=(f+i)*z from O]
  have hl:=zKG h (base:=(f+i)*z) (z:=z) h1 (f:Int) (i:Int) g (z - 5) 5 [] (Nat.le_refl _) (by omega) KW.nil
  have hsp:prt d.bytes ((f+i)*z) z=yZ d (f+i):=by rw [zQB,TQ]
  rw [hsp,hk] at hl
  exact uL hl O
 have hsel:=jI (yZ d (f+0)) (yZ d (f+1))
 have ho:DK d f=aQ (yZ d (f+0)) (yZ d (f+1)):=oH d f
 rw [ho]
 rcases hsel with ⟨h0,h1,h2⟩ | ⟨g,K,t,h0,h1,h2⟩ | ⟨g,K,t,h1,h0,h2⟩
 ·rw [h2]
  have g0:jJ (yZ d (f+0))=0:=by unfold jJ; rw [h0]
  have g1:jJ (yZ d (f+1))=0:=by unfold jJ; rw [h1]
  rw [g0,g1,if_neg (by omega)]
  rfl
 ·rw [h2]
  have hg:=mH h0
  have g0:jJ (yZ d (f+0))=g:=by unfold jJ; rw [h0]
  have g1:jJ (yZ d (f+1))≤g:=by
   unfold jJ
   cases hs:tV (yZ d (f+1)) with
   | none=>simp only; omega
   | some p=>exact h1 p hs
  rw [g0,if_pos (by omega),zX (by simp; omega),AA,zX (by simp)]
  exact hrest 0 g K t (by omega) h0
 ·rw [h2]
  have hg:=mH h1
  have g1:jJ (yZ d (f+1))=g:=by unfold jJ; rw [h1]
  have g0:jJ (yZ d (f+0))<g:=by
   unfold jJ
   cases hs:tV (yZ d (f+0)) with
   | none=>simp only; omega
   | some p=>exact h0 p hs
  rw [g1]
  have hgt:(if jJ (yZ d (f+0))>0 then (⟨true,(f:Int),0,jJ (yZ d (f+0)), [],0,false⟩:zH) else (⟨true,(f:Int),(-1),0, [],0,false⟩:zH)).Gen<g:=by split <;> simp only <;> omega
  rw [yF (by simpa using hgt),AA]
  have hst:∀ c:Prop, [Decidable c]→(⟨(if c then (⟨true,(f:Int),0,jJ (yZ d (f+0)), [],0,false⟩:zH) else (⟨true,(f:Int),(-1),0, [],0,false⟩:zH)).F_,(if c then (⟨true,(f:Int),0,jJ (yZ d (f+0)), [],0,false⟩:zH) else (⟨true,(f:Int),(-1),0, [],0,false⟩:zH)).First,1,g,(if c then (⟨true,(f:Int),0,jJ (yZ d (f+0)), [],0,false⟩:zH) else (⟨true,(f:Int),(-1),0, [],0,false⟩:zH)).Keys,(if c then (⟨true,(f:Int),0,jJ (yZ d (f+0)), [],0,false⟩:zH) else (⟨true,(f:Int),(-1),0, [],0,false⟩:zH)).Tail,(if c then (⟨true,(f:Int),0,jJ (yZ d (f+0)), [],0,false⟩:zH) else (⟨true,(f:Int),(-1),0, [],0,false⟩:zH)).KA⟩:zH)=⟨true,(f:Int),1,g, [],0,false⟩:=fun c _=>by split <;> rfl
  rw [hst,zX (by simp)]
  exact hrest 1 g K t (by omega) h1
def Aq (r:zH):zH:=⟨r.F_,r.First,r.Active,0, [],r.Tail,true⟩
theorem fB (r:zH):wO r=some (Aq r,10):=rfl
def Og (AX:zH) (FB:List zD):Int→Option (uN Int ((zH × Int) ⊕ Unit)):=
 (fun (s1:Int)=>bif decide (s1<(FB.length:Int)) then (bnd ((bnd (BP FB s1) fun x1=>bif decide ((x1.Value.length:Int)>28) then (some true) else (bif x1.Delete then (some (decide ((x1.Value.length:Int)>0))) else (some false)):Option Bool)) fun o4=>bif o4 then (some (.done (.inl (AX,1)))) else (bnd (yC (τ:=(zH × Int) ⊕ Unit) (fun (s2:Int)=>bif decide (s2<s1) then (bnd (BP FB s2) fun x2=>bnd (BP FB s1) fun x3=>bif (x2.Key==x3.Key) then (some (.done (.inl (AX,7)))) else (some (.next (wrap .i64 (s2+1))))) else (some (.done (.inr ())))) 0) fun o5=>vz (fun r_=>(.done (.inl r_))) o5 fun o6=>some (.next (wrap .i64 (s1+1))))) else (some (.done (.inr ()))))
def zNr (r:zH) (e:Int):(zH × Int) ⊕ Unit:=if e=0 then .inr () else .inl (r,e)
theorem zHY {r:zH} {l:List zD} (hl:l.length≤1000000):∀ (k i:Nat) (seen:List Int),i+k=l.length→(∀ q,q∈seen↔∃ j,j<i∧(l[j]?.map (·.Key))=some q)→
    yC (Og r l) (i:Int)=some (zNr r (SI seen (l.drop i)))
  | 0,i,seen,h,_=>by
    refine yR ?_
    unfold Og
    rw [zX (by simp; omega),List.drop_eq_nil_of_le (by omega)]
    rfl
  | k+1,i,seen,h,hm=>by
    have hi:i<l.length:=by omega
    have hd:l.drop i=l[i]::l.drop (i+1):=(List.getElem_cons_drop (h:=hi)).symm
    rw [hd]
    have hst:Og r l (i:Int)=some (if l[i].Value.length>28∨(l[i].Delete=true∧l[i].Value.length>0) then .done (.inl (r,1)) else if l[i].Key∈seen then .done (.inl (r,7)) else .next ((i+1:Nat):Int)):=by
      unfold Og
      rw [yF (by simp; omega),xJ hi,AA]
      have hc:(bif decide ((l[i].Value.length:Int)>28) then (some true) else (bif l[i].Delete then (some (decide ((l[i].Value.length:Int)>0))) else (some false)):Option Bool)=some (decide (l[i].Value.length>28∨(l[i].Delete=true∧l[i].Value.length>0))):=by
        by_cases h1:l[i].Value.length>28
        · rw [yF (by simp; omega),decide_eq_true (.inl h1)]
        · rw [zX (by simp; omega)]
          cases hdl:l[i].Delete
          · rw [cond_false]
            congr 1
            symm
            simp [h1]
          · rw [cond_true]
            congr 1
            rw [decide_eq_decide]
            simp [h1]
      rw [hc,AA]
      by_cases h1:l[i].Value.length>28∨(l[i].Delete=true∧l[i].Value.length>0)
      · rw [decide_eq_true h1,cond_true,if_pos h1]
      · rw [decide_eq_false h1, cond_false, if_neg h1]
        refine gW (fun k=>(k:Int)) i (fun k=>(l[k]?.map (·.Key))==some l[i].Key) (.inl (r,7)) (.inr ()) O (fun j hj=>?_) ?_ ?_
        · have hjl : j < l.length := by omega
          rw [yF (by simp; omega),xJ hjl,AA,AA,List.getElem?_eq_getElem hjl]
          by_cases hk:l[j].Key=l[i].Key
          · rw [yF (by simpa using hk),yF (by simpa using hk)]
          · rw [zX (by simpa using hk),yQ hjl (by omega),zX (by simpa using hk)]
        · rw [zX (by simp)]
        · by_cases h2 : l[i].Key ∈ seen
          · rw [if_pos h2]
            have:(List.range i).any (fun k=>(l[k]?.map (·.Key))==some l[i].Key)=true:=by
              obtain ⟨j,hj,e⟩:=(hm _).1 h2
              rw [List.any_eq_true]
              exact ⟨j,List.mem_range.2 hj,by rw [e]; simp⟩
            rw [this]
            rfl
          · rw [if_neg h2]
            have:(List.range i).any (fun k=>(l[k]?.map (·.Key))==some l[i].Key)=false:=by
              rw [List.any_eq_false]
              intro j hj e
              exact h2 ((hm _).2 ⟨j,List.mem_range.1 hj,by simpa using e⟩)
            rw [this,yQ hi (by omega)]
            rfl
    unfold SI
    by_cases h1:l[i].Value.length>28∨(l[i].Delete=true∧l[i].Value.length>0)
    · rw [if_pos h1] at hst
      rw [if_pos h1]
      exact yR hst
    · rw [if_neg h1] at hst
      rw [if_neg h1]
      by_cases h2:l[i].Key∈seen
      · rw [if_pos h2] at hst
        rw [if_pos h2]
        exact yR hst
      · rw [if_neg h2] at hst
        rw [if_neg h2]
        refine xO hst (zHY hl k (i+1) (l[i].Key::seen) (by omega) fun q=>?_)
        rw [List.mem_cons,hm]
        constructor
        · rintro (rfl | ⟨j, hj, e⟩)
          · exact ⟨i,by omega,by rw [List.getElem?_eq_getElem hi]; rfl⟩
          · exact ⟨j,by omega,e⟩
        · rintro ⟨j, hj, e⟩
          by_cases hji:j=i
          · subst hji
            rw [List.getElem?_eq_getElem hi] at e
            injection e with e
            exact .inl e.symm
          · exact .inr ⟨j,by omega,e⟩
theorem zKp {f:Nat} {o:OS} {d:zA} {l:List zD} (hK:KW o.K) (hll:l.length≤1000000):qQ (oB f o) l (toF d)=
  some (if d.down then (Aq (oB f o),10) else if kZ l≠0 then (oB f o,kZ l) else if (wC o.K l).length>32 then (oB f o,3) else (oB f o,0)):=by
 unfold qQ
 rw [show (oB f o).KA=false from O,cond_false,show nD (oB f o).F_=some true from O,AA,AA,show (toF d).Down=d.down from O]
 cases hd:d.down
 ·rw [cond_false,if_neg (by simp)]
  unfold kZ
  by_cases h32:l.length>32
  ·rw [yF (by simp; omega),if_pos h32,if_pos (by decide)]
  ·rw [zX (by simp; omega),if_neg h32]
   have hlp:=zHY (r:=oB f o) (l:=l) hll l.length 0 [] (by omega) (fun q=>by simp)
   unfold Og at hlp
   refine uL hlp ?_
   rw [List.drop_zero]
   unfold zNr
   by_cases hc:SI [] l=0
   ·rw [if_pos hc,DZ,hc,if_neg (by decide),show (oB f o).Keys=o.K from rfl,zEj hK.Af (by have:=hK.len; omega),AA]
    by_cases hg:(wC o.K l).length>32
    ·rw [yF (by simp; omega),if_pos hg]
    ·rw [zX (by simp; omega),if_neg hg]
   ·rw [if_neg hc,JR,if_pos hc]
 ·rw [cond_true,fB,AA,if_pos O]
theorem zAV {l:List zD} (hl:l.length≤1000) (hv:∀ x∈l,x.Value.length≤1000):mN l=some (xI l):=by
 unfold mN
 have hb:∀ i,i≤l.length→(wrap .u8 (l.length:Int)::(l.take i).flatMap kX).length≤1+i*1002:=fun i hi=>by
  have:=zMI (l:=l.take i) fun x hx=>hv x (List.mem_of_mem_take hx)
  simp only [List.length_take,List.length_cons] at*
  rw [Nat.min_eq_left hi] at this
  omega
 refine wH (fun i=>(wrap .u8 (l.length:Int)::(l.take i).flatMap kX,(i:Int))) l.length (wrap .u8 (l.length:Int)::l.flatMap kX) O (fun i hi=>?_) ?_ ?_
 ·have h1:=hb i (by omega)
  have h2:=hv l[i] (List.getElem_mem hi)
  have h3:i*1002≤1000*1002:=Nat.mul_le_mul_right _ (by omega)
  simp only
  rw [yF (by simp; omega),xJ hi,AA,xY hi,List.flatMap_append]
  simp only [List.flatMap_cons,List.flatMap_nil,List.append_nil]
  have hE:∀ (z:List Int),(wrap .u8 (l.length:Int)::((l.take i).flatMap kX++z))=(wrap .u8 (l.length:Int)::(l.take i).flatMap kX)++z:=fun z=>O
  rw [hE]
  generalize hpre:wrap .u8 (l.length:Int)::(l.take i).flatMap kX=pre at h1 ⊢
  unfold kX
  cases hd:l[i].Delete
  ·simp only [cond_false]
   rw [AA,vE (by simp; omega) (by simp; omega),AA,vE (by simp; omega) (by simp; omega),AA,yQ hi (by omega)]
   simp
  ·simp only [cond_true]
   rw [vE (by simp; omega) (by simp; omega),AA,yQ hi (by omega)]
   simp
 ·simp only
  rw [zX (by simp),List.take_length]
 ·have h1:=hb l.length (Nat.le_refl _)
  rw [List.take_length] at h1
  have h3:l.length*1002≤1000*1002:=Nat.mul_le_mul_right _ hl
  rw [vE (by simp only [List.length_cons,List.length_nil] at*; omega) (by simp only [List.length_cons,List.length_nil] at*; omega),AA]
  rfl
theorem zND {g:Int} (h0:0≤g) (h1:g≤4294967295):kP g 4=some (fS g):=by
 obtain ⟨n,rfl⟩:∃ n:Nat,g=(n:Int):=⟨g.toNat,by omega⟩
 have e8:(8:Int)=((8:Nat):Int):=rfl
 have e16:(16:Int)=((16:Nat):Int):=rfl
 have e24:(24:Int)=((24:Nat):Int):=rfl
 have p8:2 ^ 8=256:=rfl
 have p16:2 ^ 16=65536:=rfl
 have Np:2 ^ 24=16777216:=rfl
 have hb:IntKind.bits .i64=64:=rfl
 unfold fS
 rw [e8,e16,e24,ZL (by omega),ZL (by omega),ZL (by omega),qD,qD,qD,qD,p8,p16,Np]
 have hm:∀ k:Nat,(k:Int).tmod 256=((k % 256:Nat):Int):=fun k=>O
 have hd:∀ k:Nat,(k:Int).tdiv 256=((k / 256:Nat):Int):=fun k=>O
 have st:∀ (k:Nat) (L:List Int) (i:Nat),i<4→L.length≤4→k≤4294967295→(bif decide (((k:Int),L,(i:Int)).2.2<4) then (bnd (app 1 ((k:Int),L,(i:Int)).2.1 [wrap .u8 (((k:Int),L,(i:Int)).1.tmod 256)]) fun l1=>some (uN.next (wrap .u64 (((k:Int),L,(i:Int)).1.tdiv 256),l1,wrap .i64 (((k:Int),L,(i:Int)).2.2+1)):uN (Int × List Int × Int) (List Int))) else (some (.done ((k:Int),L,(i:Int)).2.1)))=some (.next (((k / 256:Nat):Int),L++ [((k % 256:Nat):Int)],((i+1:Nat):Int))):=by
  intro k L i hi hL hk
  dsimp only
  rw [yF (by simp; omega),hm,hd,Zr (by omega),Zt (by omega),vE (by simp; omega) (by simp; omega),AA,Am (by omega)]
 unfold kP
 have q1:n / 256 / 256=n / 65536:=by omega
 have q2:n / 65536 / 256=n / 16777216:=by omega
 have s0:=st n [] 0 (by omega) (by simp) (by omega)
 have s1:=st (n / 256) [((n % 256:Nat):Int)] 1 (by omega) (by simp) (by omega)
 have s2:=st (n / 65536) [((n % 256:Nat):Int),((n / 256 % 256:Nat):Int)] 2 (by omega) (by simp) (by omega)
 have s3:=st (n / 16777216) [((n % 256:Nat):Int),((n / 256 % 256:Nat):Int),((n / 65536 % 256:Nat):Int)] 3 (by omega) (by simp) (by omega)
 rw [q1] at s1
 rw [q2] at s2
 exact uL (xO s0 (xO s1 (xO s2 (xO s3 (yR O))))) O
theorem eT {d:zA} {at_:Int} {b:List Int} (h:0≤at_∧at_+b.length≤d.bytes.length):(zW d at_ b).2=0∨(zW d at_ b).2=10:=by
 unfold zW
 split
 ·exact .inr O
 ·rw [if_pos ⟨by omega,by omega,by omega,by omega⟩]
  exact dS _ _ _
theorem zOH {d:zA} {s:Int} (h:0≤s∧s<d.BD.length):(vF d s).2=0∨(vF d s).2=10:=by
 unfold vF
 split
 ·exact .inr O
 ·rw [if_neg (by omega)]
  cases (yP (JF d s.toNat)).2 <;> simp
structure OkR (o:OS) (d:zA) (f:Nat):Prop where
 oo:Ns o
 clean:0≤o.act→o.clean=vT ((yZ d (f+o.act.toNat)).drop o.tail.toNat)∧o.tail≤d.size
 none:o.act<0→o.gen=0
theorem zPi {d:zA} (h:FV d) (hz:1024≤d.size) {f:Nat} (hf:f+1<d.BD.length):OkR (DK d f) d f:=by
 have ho:=cH h hz hf
 refine ⟨ho,fun ha=>?_,fun ha=>?_⟩
 ·rw [oH] at*
  have hl0:=sP h (k:=f) (by omega)
  have hl1:=sP h (k:=f+1) hf
  have hs:=h.size
  rcases jI (yZ d f) (yZ d (f+1)) with ⟨h0,h1,h2⟩ | ⟨g,K,t,h0,h1,h2⟩ | ⟨g,K,t,h1,h0,h2⟩
  ·rw [h2] at ha; exact absurd ha (by decide)
  ·rw [h2]
   obtain ⟨_,_,_,_,hk⟩:=mH h0
   have:=(zGL (qZ h f)).2
   rw [hk] at this
   simp only [List.length_drop] at this
   exact ⟨O,by show (t:Int)≤d.size; omega⟩
  ·rw [h2]
   obtain ⟨_,_,_,_,hk⟩:=mH h1
   have:=(zGL (qZ h (f+1))).2
   rw [hk] at this
   simp only [List.length_drop] at this
   exact ⟨O,by show (t:Int)≤d.size; omega⟩
 ·rw [oH] at*
  rcases jI (yZ d f) (yZ d (f+1)) with ⟨h0,h1,h2⟩ | ⟨g,K,t,h0,h1,h2⟩ | ⟨g,K,t,h1,h0,h2⟩
  ·rw [h2]; rfl
  ·rw [h2] at ha; exact absurd ha (by show ¬ (0:Int)<0; omega)
  ·rw [h2] at ha; exact absurd ha (by show ¬ (1:Int)<0; omega)
def zTc (r:zH) (f:Nat) (o:Option OS):Prop:=match o with
 | none=>r.KA=true∧r.Keys= []∧r.Gen=0
 | some o=>r=oB f o
theorem zKu {f:Nat} {o o':OS} {r:zA × Int} (h:r.2=0∨r.2=10):∃ r',(if r.2=0 then some (oB f o',toF r.1,0) else some (Aq (oB f o),toF r.1,10))=some (r',toF (eG o o' r).2.1,(eG o o' r).2.2)∧zTc r' f (eG o o' r).1:=by
 unfold eG
 rcases h with h | h
 ·rw [if_pos h,if_pos h]
  exact ⟨_,O,O⟩
 ·rw [if_neg (by omega),if_neg (by omega),if_pos h]
  exact ⟨_,O,O,O,O⟩
theorem zJq {f:Nat} {o:OS} {d:zA} {l:List zD} (hR:OkR o d f) (h:FV d) (hz:1024≤d.size) (hf:f+1<d.BD.length) (hll:l.length≤1000000) (hl:∀ x∈l,0≤x.Key∧x.Key≤255∧DN x.Value):
  ∃ r',xA (oB f o) l (toF d)=some (r',toF (cS o d f l).2.1,(cS o d f l).2.2)∧zTc r' f (cS o d f l).1:=by
 have ho:=hR.oo
 have hw:=h.BD
 have hsz:=h.size
 have hb:=h.bound
 have hot:=ho.tail
 have hoa:=ho.act
 have hog:=ho.gen
 obtain ⟨z,hzz⟩:∃ z:Nat,d.size=(z:Int):=⟨d.size.toNat,by omega⟩
 have hz1:d.size.toNat=z:=by rw [hzz]; rfl
 unfold xA cS
 rw [zKp ho.K hll,AA]
 cases hd:d.down
 case true=>exact ⟨_,rfl,rfl,rfl,rfl⟩
 rw [if_neg (show ¬ (false=true) by decide),if_neg (show ¬ (false=true) by decide)]
 by_cases hc:kZ l≠0
 ·rw [if_pos hc,if_pos hc,yF (by simpa using hc)]
  exact ⟨_,O,O⟩
 have hc0:kZ l=0:=by omega
 rw [if_neg hc,if_neg hc]
 by_cases hnil:l= []
 ·subst hnil
  rw [if_neg (by show ¬ o.K.length>32; have:=ho.K.len; omega),if_pos O]
  exact ⟨_,O,O⟩
 rw [if_neg hnil]
 have hpos:0<l.length:=List.length_pos_iff.2 hnil
 have hco:=Vu hc0
 have KG:∀ x∈l,PY x:=fun x hx=>⟨⟨(hl x hx).1,(hl x hx).2.1⟩,(hco.2 x hx).1,(hl x hx).2.2,(hco.2 x hx).2⟩
 by_cases h32:(wC o.K l).length>32
 ·rw [if_pos h32,if_pos h32,yF (by rfl)]
  exact ⟨_,O,O⟩
 rw [if_neg h32,if_neg h32,zX (by rfl),zX (by simp; omega)]
 have KP:KW (wC o.K l):=ho.K.all KG (by omega)
 have hel:=Ah hco.1 KG
 have her:=nJ hco.1 KG
 rw [zUD ⟨hll,fun x hx=>by have:=(hco.2 x hx).1; omega⟩,AA,show (oB f o).Keys=o.K from O,zEj ho.K.Af (by have:=ho.K.len; omega),AA,zAV (by omega) (fun x hx=>by have:=(hco.2 x hx).1; omega),AA]
 rw [show (oB f o).Active=o.act from O,show (oB f o).First=(f:Int) from O,show (oB f o).Tail=o.tail from O,show (oB f o).Gen=o.gen from O,show (oB f o).F_=true from O,show (oB f o).KA=false from O,show (toF d).Size=d.size from O,show (toF d).Data=d.bytes from O,show nD true=some true from O]
 by_cases hap:0≤o.act∧o.clean=true∧((xI l).length:Int)≤d.size - o.tail
 ·
  rw [if_pos hap]
  obtain ⟨ha,hcl,hfit⟩:=hap
  obtain ⟨WG,htl⟩:=hR.clean ha
  have hfa:f+o.act.toNat<d.BD.length:=by omega
  have hle:=wP h hfa
  rw [hz1] at hle
  have e1:wrap .i64 ((f:Int)+o.act)=((f+o.act.toNat:Nat):Int):=by rw [zZ (by omega) (by omega)]; omega
  have e2:wrap .i64 (((f+o.act.toNat:Nat):Int)*d.size)=(((f+o.act.toNat)*d.size.toNat:Nat):Int):=by
   rw [hz1,hzz]
   have:(((f+o.act.toNat:Nat):Int)*(z:Int))=(((f+o.act.toNat)*z:Nat):Int):=by simp
   rw [this,xP (by omega)]
  obtain ⟨r,hr⟩:∃ r,zW d ((((f+o.act.toNat)*d.size.toNat:Nat):Int)+o.tail) (xI l)=r:=⟨_,rfl⟩
  have hr2:r.2=0∨r.2=10:=by rw [←hr]; exact eT ⟨by omega,by rw [hz1]; omega⟩
  rw [hr]
  have hblk:=zKu (f:=f) (o:=o) (o':=⟨o.act,o.gen,wC o.K l,o.tail+((xI l).length:Int),o.clean⟩) hr2
  obtain ⟨r',hr',hrel⟩:=hblk
  refine ⟨r',?_,hrel⟩
  rw [←hr']
  refine uL (a:=.inl (if r.2=0 then (oB f ⟨o.act,o.gen,wC o.K l,o.tail+((xI l).length:Int),o.clean⟩,toF r.1,0) else (Aq (oB f o),toF r.1,10))) ?_ ?_
  ·rw [yF (by simpa using ha),AA,e1,e2,zZ (x:=(((f+o.act.toNat)*d.size.toNat:Nat):Int)+o.tail) (by omega) (by rw [hz1]; omega),zZ (x:=(((f+o.act.toNat)*d.size.toNat:Nat):Int)+d.size) (by omega) (by rw [hz1]; omega)]
   have hp:tD d.bytes.length ((((f+o.act.toNat)*d.size.toNat:Nat):Int)+o.tail) ((((f+o.act.toNat)*d.size.toNat:Nat):Int)+d.size)=some (z - o.tail.toNat):=by
    unfold tD
    rw [if_pos ⟨by omega,by omega,by rw [hz1]; omega⟩]
    congr 1
    rw [hz1]
    omega
   have hs:Go.Proofs.YtplchdlgdjcojaaGreatDoor.sub d.bytes ((Int.toNat ((((f+o.act.toNat)*d.size.toNat:Nat):Int)+o.tail):Nat):Int) (((Int.toNat ((((f+o.act.toNat)*d.size.toNat:Nat):Int)+o.tail))+(z - o.tail.toNat):Nat):Int)=some ((yZ d (f+o.act.toNat)).drop o.tail.toNat):=by
    have e3:Int.toNat ((((f+o.act.toNat)*d.size.toNat:Nat):Int)+o.tail)=(f+o.act.toNat)*d.size.toNat+o.tail.toNat:=by omega
    rw [e3,lR (by omega) (by rw [hz1]; omega),Nat.add_sub_cancel_left]
    congr 1
    unfold yZ
    rw [List.drop_take,List.drop_drop,hz1]
   have hlen:((yZ d (f+o.act.toNat)).drop o.tail.toNat).length≤1000000:=by
    have:=sP h hfa
    simp only [List.length_drop]
    omega
   rw [hp,AA,yF (by simp; omega),hs,AA,iK hlen,AA,←WG,hcl,AA,cond_true,fJ h her,hr,AA]
   rcases hr2 with h0 | h0
   ·rw [zX (by simpa using h0),if_pos h0,zZ (by omega) (by omega)]
    rfl
   ·rw [yF (by simp [h0]),fB,AA,if_neg (by omega)]
  ·rw [JR]
   split <;> rfl
 rw [if_neg hap]
 by_cases hg:o.gen=2147483648
 ·have ha:0≤o.act:=by
   by_cases ha:0≤o.act
   ·exact ha
   ·have:=hR.none (by omega); omega
  rw [if_pos hg]
  refine ⟨oB f o,?_,O⟩
  obtain ⟨WG,htl⟩:=hR.clean ha
  have hfa:f+o.act.toNat<d.BD.length:=by omega
  have hle:=wP h hfa
  rw [hz1] at hle
  have e1:wrap .i64 ((f:Int)+o.act)=((f+o.act.toNat:Nat):Int):=by rw [zZ (by omega) (by omega)]; omega
  have e2:wrap .i64 (((f+o.act.toNat:Nat):Int)*d.size)=(((f+o.act.toNat)*d.size.toNat:Nat):Int):=by
   rw [hz1,hzz]
   have:(((f+o.act.toNat:Nat):Int)*(z:Int))=(((f+o.act.toNat)*z:Nat):Int):=by simp
   rw [this,xP (by omega)]
  refine uL (a:=.inl (oB f o,toF d,3)) ?_ O
  rw [yF (by simpa using ha),AA,e1,e2,zZ (x:=(((f+o.act.toNat)*d.size.toNat:Nat):Int)+o.tail) (by omega) (by rw [hz1]; omega),zZ (x:=(((f+o.act.toNat)*d.size.toNat:Nat):Int)+d.size) (by omega) (by rw [hz1]; omega)]
  have hp:tD d.bytes.length ((((f+o.act.toNat)*d.size.toNat:Nat):Int)+o.tail) ((((f+o.act.toNat)*d.size.toNat:Nat):Int)+d.size)=some (z - o.tail.toNat):=by
   unfold tD
   rw [if_pos ⟨by omega,by omega,by rw [hz1]; omega⟩]
   congr 1
   rw [hz1]
   omega
  have hs:Go.Proofs.YtplchdlgdjcojaaGreatDoor.sub d.bytes ((Int.toNat ((((f+o.act.toNat)*d.size.toNat:Nat):Int)+o.tail):Nat):Int) (((Int.toNat ((((f+o.act.toNat)*d.size.toNat:Nat):Int)+o.tail))+(z - o.tail.toNat):Nat):Int)=some ((yZ d (f+o.act.toNat)).drop o.tail.toNat):=by
   have e3:Int.toNat ((((f+o.act.toNat)*d.size.toNat:Nat):Int)+o.tail)=(f+o.act.toNat)*d.size.toNat+o.tail.toNat:=by omega
   rw [e3,lR (by omega) (by rw [hz1]; omega),Nat.add_sub_cancel_left]
   congr 1
   unfold yZ
   rw [List.drop_take,List.drop_drop,hz1]
  have hlen:((yZ d (f+o.act.toNat)).drop o.tail.toNat).length≤1000000:=by
   have:=sP h hfa
   simp only [List.length_drop]
   omega
  rw [hp,AA,hs]
  have ho3:(bif decide (((xI l).length:Int)≤((z - o.tail.toNat:Nat):Int)) then (bnd (some ((yZ d (f+o.act.toNat)).drop o.tail.toNat)) fun l1=>bnd (qG l1) fun r5=>some r5) else some false)=some false:=by
   by_cases hfit:((xI l).length:Int)≤((z - o.tail.toNat:Nat):Int)
   ·rw [yF (by simpa using hfit),AA,iK hlen,AA,←WG]
    congr 1
    cases hcl:o.clean
    ·rfl
    ·exact absurd ⟨ha,hcl,by omega⟩ hap
   ·rw [zX (by simpa using hfit)]
  rw [ho3,AA,cond_false,yF (by simpa using hg)]
 -- the other EJ
 rw [if_neg hg]
 generalize hN:wC o.K l=N at KP ⊢
 have hfirst:∀ (blk:Option ((zH × yD × Int) ⊕ Bool)),blk=some (.inr true)→blk=some (.inr true):=fun _ h=>h
 have hk:f+wG o<d.BD.length:=by unfold wG; split <;> omega
 have hle:=wP h hk
 rw [hz1] at hle
 have rf:wG o≤1:=by unfold wG; split <;> omega
 have hfo:wrap .i64 ((f:Int)+((wG o:Nat):Int))=((f+wG o:Nat):Int):=by rw [zZ (by omega) (by omega)]; omega
 have hoff:wrap .i64 (((f+wG o:Nat):Int)*d.size)=(((f+wG o)*d.size.toNat:Nat):Int):=by
  rw [hz1,hzz]
  have:(((f+wG o:Nat):Int)*(z:Int))=(((f+wG o)*z:Nat):Int):=by simp
  rw [this,xP (by omega)]
 have hoth:((bif (o.act==0) then (some 1) else (some 0):Option Int))=some ((wG o:Nat):Int):=by
  unfold wG
  by_cases ha:o.act=0
  ·rw [yF (by simpa using ha),if_pos ha]; rfl
  ·rw [zX (by simpa using ha),if_neg ha]; rfl
 have hsl:(yZ d (f+wG o)).length=d.size.toNat:=sP h hk
 obtain ⟨r1,hr1⟩:∃ r1,(if vT (yZ d (f+wG o)) then (d,0) else vF d ((f+wG o:Nat):Int))=r1:=⟨_,rfl⟩
 have ok1:FV r1.1∧r1.1.size=d.size∧r1.1.BD.length=d.BD.length∧r1.1.bytes.length=d.bytes.length∧r1.1.BQ=d.BQ:=by
  rw [←hr1]
  split
  ·exact ⟨h,O,O,O,O⟩
  ·exact zDA h _
 have er1:r1.2=0∨r1.2=10:=by
  rw [←hr1]
  split
  ·exact .inl O
  ·exact zOH ⟨by omega,by omega⟩
 obtain ⟨r2,hr2⟩:∃ r2,(tT r1 fun d1=>zW d1 (((f+wG o)*d.size.toNat:Nat):Int) (fS (o.gen+1)))=r2:=⟨_,rfl⟩
 have ok2:FV r2.1∧r2.1.size=d.size∧r2.1.BD.length=d.BD.length∧r2.1.bytes.length=d.bytes.length∧r2.1.BQ=d.BQ:=by
  rw [←hr2]
  exact Vw ok1 fun e a b c g t=>Vx a b c g t (Nu _) _
 have er2:r2.2=0∨r2.2=10:=by
  rw [←hr2]
  unfold tT
  split
  ·exact eT ⟨by omega,by rw [ok1.2.2.2.1,hz1]; show _+(4:Int)≤_; omega⟩
  ·exact er1
 obtain ⟨r3,hr3⟩:∃ r3,(tT r2 fun d2=>if N= [] then (d2,0) else zW d2 ((((f+wG o)*d.size.toNat:Nat):Int)+5) (xI N))=r3:=⟨_,rfl⟩
 have aU7:=Ah KP.len KP.ok
 have Vy:FV r3.1∧r3.1.size=d.size∧r3.1.BD.length=d.BD.length∧r3.1.bytes.length=d.bytes.length∧r3.1.BQ=d.BQ:=by
  rw [←hr3]
  refine Vw ok2 fun e a b c g t=>?_
  split
  ·exact ⟨a,b,c,g,t⟩
  ·exact Vx a b c g t (nJ KP.len KP.ok) _
 have er3:r3.2=0∨r3.2=10:=by
  rw [←hr3]
  unfold tT
  split
  ·split
   ·exact .inl O
   ·exact eT ⟨by omega,by rw [ok2.2.2.2.1,hz1]; omega⟩
  ·exact er2
 obtain ⟨r4,hr4⟩:∃ r4,(tT r3 fun d3=>zW d3 ((((f+wG o)*d.size.toNat:Nat):Int)+4) [0])=r4:=⟨_,rfl⟩
 have er4:r4.2=0∨r4.2=10:=by
  rw [←hr4]
  unfold tT
  split
  ·exact eT ⟨by omega,by rw [Vy.2.2.2.1,hz1]; show _+(1:Int)≤_; omega⟩
  ·exact er3
 have hmo:pM o d f N=r4:=by
  unfold pM
  simp only
  rw [hr1,hr2,hr3,hr4]
 rw [hmo]
 obtain ⟨r',hr',hrel⟩:=zKu (f:=f) (o:=o) (o':=Ag o N) er4
 refine ⟨r',?_,hrel⟩
 rw [←hr']
 refine uL (a:=.inr true) ?_ ?_
 ·by_cases ha:0≤o.act
  ·obtain ⟨WG,htl⟩:=hR.clean ha
   have hfa:f+o.act.toNat<d.BD.length:=by omega
   have hle:=wP h hfa
   rw [hz1] at hle
   have e1:wrap .i64 ((f:Int)+o.act)=((f+o.act.toNat:Nat):Int):=by rw [zZ (by omega) (by omega)]; omega
   have e2:wrap .i64 (((f+o.act.toNat:Nat):Int)*d.size)=(((f+o.act.toNat)*d.size.toNat:Nat):Int):=by
    rw [hz1,hzz]
    have:(((f+o.act.toNat:Nat):Int)*(z:Int))=(((f+o.act.toNat)*z:Nat):Int):=by simp
    rw [this,xP (by omega)]
   rw [yF (by simpa using ha),AA,e1,e2,zZ (x:=(((f+o.act.toNat)*d.size.toNat:Nat):Int)+o.tail) (by omega) (by rw [hz1]; omega),zZ (x:=(((f+o.act.toNat)*d.size.toNat:Nat):Int)+d.size) (by omega) (by rw [hz1]; omega)]
   have hp:tD d.bytes.length ((((f+o.act.toNat)*d.size.toNat:Nat):Int)+o.tail) ((((f+o.act.toNat)*d.size.toNat:Nat):Int)+d.size)=some (z - o.tail.toNat):=by
    unfold tD
    rw [if_pos ⟨by omega,by omega,by rw [hz1]; omega⟩]
    congr 1
    rw [hz1]
    omega
   have hs:Go.Proofs.YtplchdlgdjcojaaGreatDoor.sub d.bytes ((Int.toNat ((((f+o.act.toNat)*d.size.toNat:Nat):Int)+o.tail):Nat):Int) (((Int.toNat ((((f+o.act.toNat)*d.size.toNat:Nat):Int)+o.tail))+(z - o.tail.toNat):Nat):Int)=some ((yZ d (f+o.act.toNat)).drop o.tail.toNat):=by
    have e3:Int.toNat ((((f+o.act.toNat)*d.size.toNat:Nat):Int)+o.tail)=(f+o.act.toNat)*d.size.toNat+o.tail.toNat:=by omega
    rw [e3,lR (by omega) (by rw [hz1]; omega),Nat.add_sub_cancel_left]
    congr 1
    unfold yZ
    rw [List.drop_take,List.drop_drop,hz1]
   have hlen:((yZ d (f+o.act.toNat)).drop o.tail.toNat).length≤1000000:=by
    have:=sP h hfa
    simp only [List.length_drop]
    omega
   rw [hp,AA,hs]
   have ho3:(bif decide (((xI l).length:Int)≤((z - o.tail.toNat:Nat):Int)) then (bnd (some ((yZ d (f+o.act.toNat)).drop o.tail.toNat)) fun l1=>bnd (qG l1) fun r5=>some r5) else some false)=some false:=by
    by_cases hfit:((xI l).length:Int)≤((z - o.tail.toNat:Nat):Int)
    ·rw [yF (by simpa using hfit),AA,iK hlen,AA,←WG]
     congr 1
     cases hcl:o.clean
     ·rfl
     ·exact absurd ⟨ha,hcl,by omega⟩ hap
    ·rw [zX (by simpa using hfit)]
   rw [ho3,AA,cond_false,zX (by simpa using hg)]
  ·rw [zX (by simpa using ha)]
 rw [DZ,hoth,AA,show nD true=some true from O,AA,hfo,hoff,zZ (x:=(((f+wG o)*d.size.toNat:Nat):Int)+d.size) (by omega) (by rw [hz1]; omega)]
 have hp:tD d.bytes.length (((f+wG o)*d.size.toNat:Nat):Int) ((((f+wG o)*d.size.toNat:Nat):Int)+d.size)=some z:=by
  unfold tD
  rw [if_pos ⟨by omega,by omega,by rw [hz1]; omega⟩]
  congr 1
  rw [hz1]
  omega
 have hs:Go.Proofs.YtplchdlgdjcojaaGreatDoor.sub d.bytes ((Int.toNat (((f+wG o)*d.size.toNat:Nat):Int):Nat):Int) (((Int.toNat (((f+wG o)*d.size.toNat:Nat):Int))+z:Nat):Int)=some (yZ d (f+wG o)):=by
  have e3:Int.toNat (((f+wG o)*d.size.toNat:Nat):Int)=(f+wG o)*d.size.toNat:=by omega
  rw [e3,lR (by omega) (by rw [hz1]; omega),Nat.add_sub_cancel_left]
  unfold yZ
  rw [hz1]
 have hgw:wrap .i64 (o.gen+1)=o.gen+1:=zZ (by omega) (by omega)
 -- it may fail at each stage
 by_cases h1:r1.2=0
 rotate_left
 ·have e2:r2=r1:=by rw [←hr2]; unfold tT; rw [if_neg h1]
  have e3:r3=r1:=by rw [←hr3,e2]; unfold tT; rw [if_neg h1]
  have e4:r4=r1:=by rw [←hr4,e3]; unfold tT; rw [if_neg h1]
  rw [e4,if_neg h1]
  refine uL (a:=.inl (Aq (oB f o),toF r1.1,10)) ?_ O
  rw [hp,AA,hs,AA,iK (by rw [hsl]; omega),AA]
  cases hbl:vT (yZ d (f+wG o))
  ·rw [hbl,if_neg (by decide)] at hr1
   rw [Bool.not_false,cond_true,zEi h _ (by omega),AA,hr1,yF (by simpa using h1),fB,AA]
  ·rw [hbl,if_pos O] at hr1
   rw [←hr1] at h1
   exact absurd O h1
 refine uL (a:=.inr (toF r1.1)) ?_ ?_
 ·rw [hp,AA,hs,AA,iK (by rw [hsl]; omega),AA]
  cases hbl:vT (yZ d (f+wG o))
  ·rw [hbl,if_neg (by decide)] at hr1
   rw [Bool.not_false,cond_true,zEi h _ (by omega),AA,hr1,zX (by simpa using h1)]
  ·rw [hbl,if_pos O] at hr1
   rw [←hr1]
   rfl
 have hr2':zW r1.1 (((f+wG o)*d.size.toNat:Nat):Int) (fS (o.gen+1))=r2:=by rw [←hr2]; unfold tT; rw [if_pos h1]
 rw [DZ,hgw,iD (x:=o.gen+1) (by omega) (by omega),zND (by omega) (by omega),AA,fJ ok1.1 (Nu _),AA,hr2']
 by_cases h2:r2.2=0
 rotate_left
 ·have e3:r3=r2:=by rw [←hr3]; unfold tT; rw [if_neg h2]
  have e4:r4=r2:=by rw [←hr4,e3]; unfold tT; rw [if_neg h2]
  rw [e4,if_neg h2,yF (by simpa using h2),fB,AA]
 rw [zX (by simpa using h2)]
 have QT:(if N= [] then (r2.1,0) else zW r2.1 ((((f+wG o)*d.size.toNat:Nat):Int)+5) (xI N))=r3:=by rw [←hr3]; unfold tT; rw [if_pos h2]
 by_cases h3:r3.2=0
 rotate_left
 ·have e4:r4=r3:=by rw [←hr4]; unfold tT; rw [if_neg h3]
  rw [e4,if_neg h3]
  have hne:N≠ []:=fun e=>by rw [if_pos e] at QT; rw [←QT] at h3; exact h3 O
  have Oh:0<N.length:=List.length_pos_iff.2 hne
  rw [if_neg hne] at QT
  refine uL (a:=.inl (Aq (oB f o),toF r3.1,10)) ?_ O
  rw [yF (by simp; omega),zAV (by have:=KP.len; omega) (fun x hx=>by have:=(KP.ok x hx).len; omega),AA,zZ (x:=(((f+wG o)*d.size.toNat:Nat):Int)+5) (by omega) (by rw [hz1]; omega),fJ ok2.1 (nJ KP.len KP.ok),AA,QT,yF (by simpa using h3),fB,AA]
 refine uL (a:=.inr (5+(if N= [] then 0 else ((xI N).length:Int)),toF r3.1)) ?_ ?_
 ·by_cases hne:N= []
  ·rw [if_pos hne] at QT
   rw [if_pos hne,zX (by rw [hne]; rfl),←QT]
   rfl
  ·have Oh:0<N.length:=List.length_pos_iff.2 hne
   rw [if_neg hne] at QT
   rw [if_neg hne,yF (by simp; omega),zAV (by have:=KP.len; omega) (fun x hx=>by have:=(KP.ok x hx).len; omega),AA,zZ (x:=(((f+wG o)*d.size.toNat:Nat):Int)+5) (by omega) (by rw [hz1]; omega),fJ ok2.1 (nJ KP.len KP.ok),AA,QT,zX (by simpa using h3),zZ (by omega) (by omega)]
 have aCq:zW r3.1 ((((f+wG o)*d.size.toNat:Nat):Int)+4) [0]=r4:=by rw [←hr4]; unfold tT; rw [if_pos h3]
 rw [DZ,zZ (x:=(((f+wG o)*d.size.toNat:Nat):Int)+4) (by omega) (by rw [hz1]; omega)]
 show bnd (xT (toF r3.1) _ [0]) _=_
 rw [fJ Vy.1 (DN.cons (by decide) DN.nil),AA,aCq]
 by_cases h4:r4.2=0
 ·rw [zX (by simpa using h4),if_pos h4]
  rfl
 ·rw [yF (by simpa using h4),if_neg h4,fB,AA]
theorem zNI {r:zH} {f:Nat} {o:OS} (h:zTc r f (some o)) (ho:KW o.K) (k:Int):tK r k=some ((oM o.K k).getD [],(oM o.K k).isSome):=by
 have hr:r=oB f o:=h
 subst hr
 have hlen:=ho.len
 unfold tK
 rw [show (oB f o).Keys=o.K from O]
 have:∀ (n i:Nat),i+n=o.K.length→yC (fun (s1:Int)=>bif decide (s1<(o.K.length:Int)) then (bnd (BP o.K s1) fun x1=>bif (x1.Key==k) then (bnd (sD x1.Value) fun r1=>some (.done (.inl (r1,true)))) else (some (.next (wrap .i64 (s1+1))))) else (some (.done (.inr ())))) (i:Int)=some (match oM (o.K.drop i) k with | some v=>(.inl (v,true):(List Int × Bool) ⊕ Unit) | none=>.inr ()):=by
  intro n
  induction n with
  | zero=>
   intro i hi
   rw [List.drop_eq_nil_of_le (by omega)]
   exact yR (by rw [zX (by simp; omega)]; rfl)
  | succ n ih=>
   intro i hi
   have hil:i<o.K.length:=by omega
   rw [←List.getElem_cons_drop (h:=hil),vC]
   by_cases hk:o.K[i].Key=k
   ·rw [if_pos hk]
    refine yR ?_
    rw [yF (by simp; omega),xJ hil,AA,yF (by simpa using hk),zQO (by have:=(ho.ok _ (List.getElem_mem hil)).len; omega),AA]
   ·rw [if_neg hk]
    refine xO (s':=((i+1:Nat):Int)) ?_ (ih (i+1) (by omega))
    rw [yF (by simp; omega),xJ hil,AA,zX (by simpa using hk),yQ hil (by omega)]
 have h0:=this o.K.length 0 (by omega)
 rw [List.drop_zero] at h0
 refine uL h0 ?_
 cases oM o.K k <;> rfl
structure Ar (d:zA):Prop where
 ok:FV d
 down:d.down=false
 size:1024≤d.size
 BD:0+1<d.BD.length
 K:(DK d 0).K= []∨∃ j,(DK d 0).K= [⟨32,j,false⟩]
theorem dT:Ar (lP 2 1024):=
 ⟨zRj (n:=2) (m:=1024) (by omega) (by omega),O,by show (1024:Int)≤1024; omega,by show 0+1<(List.replicate 2 (0:Int)).length; simp, .inl (by rw [zDH (by omega) (by omega)]; rfl)⟩
theorem zVG {s:zE} {f:Nat} {o:OS} (hs:QS s f o) (ho:KW o.K) (k:Int):vQ s k=some ((oM o.K k).getD [],(oM o.K k).isSome):=by
 obtain ⟨m,h1,h2,h3⟩:=hs.all
 unfold vQ
 have e:vW (yH .u8).eq (s.all.getD []) k=oM o.K k:=by
  rw [h1,←h3,Vr]
  rfl
 rw [e,Nb]
 ·rfl
 ·cases hk:oM o.K k with
  | none=>simp
  | some v=>
   unfold oM at hk
   obtain ⟨x,hx,rfl⟩:=Option.map_eq_some_iff.1 hk
   have:=(ho.ok x (List.mem_of_find?_eq_some hx)).len
   simp; omega
theorem zUT {d:zA} (h:Ar d) {s:zE} (hs:QS s 0 (DK d 0)) {l:List zD} (hl:∀ x∈l,0≤x.Key∧x.Key≤255∧DN x.Value) (hll:l.length≤1000000) (hK:(wC (DK d 0).K l).length≤1):
  ∃ s' r',yT s l d=some (s',(cS (DK d 0) d 0 l).2)∧xA (oB 0 (DK d 0)) l (toF d)=some (r',toF (cS (DK d 0) d 0 l).2.1,(cS (DK d 0) d 0 l).2.2):=by
 obtain ⟨s',h1,_⟩:=zOs hs (cH h.ok h.size h.BD) h.ok h.size h.BD hll hl (fun _=>Nat.le_trans hK (by decide))
 obtain ⟨r',h2,_⟩:=zJq (zPi h.ok h.size h.BD) h.ok h.size h.BD hll hl
 exact ⟨s',r',h1,h2⟩
theorem zHA {d:zA} (h:Ar d):∃ s,xN d 0=some (d,some s,0)∧vH (toF d) 0=some (toF d,some (oB 0 (DK d 0)),0)∧QS s 0 (DK d 0):=by
 obtain ⟨s,h1,h2⟩:=zRy (f:=0) h.ok h.down h.size h.BD
 exact ⟨s,h1,zLz (f:=0) h.ok h.down h.size h.BD,h2⟩
theorem Wn {j:List Int} (hj:DN j) (h28:j.length≤28) {s:zE} (hs:QS s 0 (DK (lP 2 1024) 0)):
  ∃ s' r' d',xQ s 32 j (lP 2 1024)=some (s',d',0)∧xA (oB 0 (DK (lP 2 1024) 0)) [⟨32,j,false⟩] (toF (lP 2 1024))=some (r',toF d',0)∧Ar d':=by
 have h:=dT
 have hl:∀ x∈ [(⟨32,j,false⟩:zD)],0≤x.Key∧x.Key≤255∧DN x.Value:=fun x hx=>by
  rw [List.mem_singleton] at hx
  subst hx
  exact ⟨(by decide:(0:Int)≤32),(by decide:(32:Int)≤255),hj⟩
 have hk0:(DK (lP 2 1024) 0).K= []:=by rw [zDH (by omega) (by omega)]; rfl
 have hg0:(DK (lP 2 1024) 0).gen=0:=by rw [zDH (by omega) (by omega)]; rfl
 have hk:wC (DK (lP 2 1024) 0).K [⟨32,j,false⟩]= [⟨32,j,false⟩]:=by rw [hk0]; rfl
 have hc:kZ [(⟨32,j,false⟩:zD)]=0:=by
  unfold kZ SI SI
  rw [if_neg (by simp),if_neg (by rintro (hh | ⟨hh,_⟩); simp only at hh; omega; cases hh),if_neg (by simp)]
 obtain ⟨s',r',u1,u2⟩:=zUT h hs hl (by simp) (by rw [hk]; simp)
 have hu:=zUc h.ok h.down h.size h.BD O hl
 have hd:=zQb h.ok h.down h.size h.BD O hl hc (by rw [hk]; simp) (by rw [hg0]; decide)
 have hca:=zNQ (d:=lP 2 1024) O h.down (DK (lP 2 1024) 0) 0 [⟨32,j,false⟩]
 generalize cS (DK (lP 2 1024) 0) (lP 2 1024) 0 [⟨32,j,false⟩]=R at*
 obtain ⟨o,d',e⟩:=R
 simp only at hu hd hca u1 u2
 have he:e=0:=by rcases hd with h | h; exact h; exact absurd h hca.1
 subst he
 refine ⟨s',r',d',by rw [zTM]; exact u1,u2,?_⟩
 have hlk:=hu.like
 rcases hu.cases with ⟨a1,a2,a3,a4,a5,a6⟩ | ⟨a1,_⟩ | ⟨a1,_⟩
 ·exact ⟨hlk.ok,a2,by rw [hlk.size]; exact h.size,by rw [hlk.BD]; exact h.BD, .inr ⟨j,by rw [a5,hk]⟩⟩
 ·simp only at a1; omega
 ·simp only at a1; omega
theorem zUp {d:zA} (h:Ar d) {s:zE} (hs:QS s 0 (DK d 0)) {L:List zB} (hL:∀ x∈L,wR x) (N:List yX):
  (∃ s1 d1 r1 f1 e,e≠0∧qI s L N d=some (s1,d1,none,e)∧pU (oB 0 (DK d 0)) L N (toF d)=some (r1,f1,none,e))∨
   ∃ s1 d1 r1 f1 X p m o,p≠1∧X.length≤8∧(∀ x∈X,wR x)∧qI s L N d=some (s1,d1,some ⟨true,X,N,p,pI,m,o⟩,0)∧pU (oB 0 (DK d 0)) L N (toF d)=some (r1,f1,some ⟨true,X,N,p,pI,m,o⟩,0):=by
 rw [zVy hL,zVD hL]
 by_cases he:hM L N=0
 case neg=>
  rw [if_neg he,if_neg he]
  exact .inl ⟨_,_,_,_,_,he,O,O⟩
 rw [if_pos he,if_pos he]
 obtain ⟨h1,h8,_,_⟩:=zIs he
 have hok:=zPo h.ok 0
 have hdel:∀ x∈ [(⟨32, [],true⟩:zD)],0≤x.Key∧x.Key≤255∧DN x.Value:=fun x hx=>by
  rw [List.mem_singleton] at hx
  subst hx
  exact ⟨(by decide:(0:Int)≤32),(by decide:(32:Int)≤255),fun y hy=>by cases hy⟩
 have hK:(wC (DK d 0).K [⟨32, [],true⟩]).length≤1:=by
  rcases h.K with hk | ⟨j,hk⟩ <;> rw [hk]
  ·decide
  ·show ([(⟨32,j,false⟩:zD)].filter fun x=>x.Key != 32).length≤1
   exact Nat.le_trans (List.length_filter_le _ _) (by simp)
 obtain ⟨s',r',u1,u2⟩:=zUT h hs hdel (by simp) hK
 have hX8:(L.map pW).length≤8:=by simpa using h8
 have hXs:∀ x∈L.map pW,wR x:=fun x hx=>by
  obtain ⟨y,hy,rfl⟩:=List.mem_map.1 hx
  exact hL y hy
 rcases zNz hX8 N (zVG hs hok 32) (zNI (r:=oB 0 (DK d 0)) (f:=0) rfl hok 32) (fun j hj=>by
   unfold oM at hj
   obtain ⟨x,hx,rfl⟩:=Option.map_eq_some_iff.1 hj
   have:=hok.ok x (List.mem_of_find?_eq_some hx)
   exact ⟨this.DN,this.len⟩) ⟨s',_,r',_,_,u1,u2⟩ with ⟨s1,d1,r1,f1,e,q1,q2,q3⟩ | ⟨s1,d1,r1,f1,p,m,o,q1,q2,q3⟩
 ·exact .inl ⟨s1,d1,r1,f1,e,q1,q2,q3⟩
 ·exact .inr ⟨s1,d1,r1,f1,_,p,m,o,q1,hX8,hXs,q2,q3⟩
theorem zKA (d:zB):mR d=some (Lu d):=by
 unfold mR Lu
 simp only [fH,AA]
 cases hv:rH d
 ·rfl
 ·have:=((oF d).1 hv).br
  simp only [UD _ this,Bool.not_true,cond_false,AA,cond_true]
def kK (L:List zB):List yE:=L.map fun d=>⟨d.Name,Lu d⟩
theorem zVi {a:zM} (h:a.devices.length≤1000):wQ a=some (kK a.devices):=by
 unfold wQ
 have e1:mkS 40 (⟨⟨#[]⟩,(⟨0,0,0⟩:zQ)⟩:yE) 0 (a.devices.length:Int)=some []:=by
  unfold mkS
  rw [if_pos ⟨by omega,by omega,by omega,by omega⟩]
  rfl
 rw [e1,AA]
 refine wH (fun i=>((kK a.devices).take i,(i:Int))) a.devices.length (kK a.devices) O (fun i hi=>?_) ?_ O
 ·simp only
  rw [decide_eq_true (by omega:(i:Int)<(a.devices.length:Int)),cond_true,xJ hi,AA,zJs,AA,vE (by simp [kK]; omega) (by simp [kK]; omega),AA,yQ hi (by omega),xY (l:=kK a.devices) (by simpa [kK] using hi)]
  simp [kK]
 ·simp only
  rw [decide_eq_false (by omega:¬ (a.devices.length:Int)<(a.devices.length:Int)),cond_false,List.take_of_length_le (by simp [kK])]
theorem zUx {a:zY} (h:a.devices.length≤1000):sC a=some (kK a.devices):=by
 unfold sC
 refine wH (fun i=>((kK a.devices).take i,(i:Int))) a.devices.length (kK a.devices) O (fun i hi=>?_) ?_ O
 ·simp only
  rw [decide_eq_true (by omega:(i:Int)<(a.devices.length:Int)),cond_true,xJ hi,AA,AA,AA,zKA,AA,vE (by simp [kK]; omega) (by simp [kK]; omega),AA,yQ hi (by omega),xY (l:=kK a.devices) (by simpa [kK] using hi)]
  simp [kK]
 ·simp only
  rw [decide_eq_false (by omega:¬ (a.devices.length:Int)<(a.devices.length:Int)),cond_false,List.take_of_length_le (by simp [kK])]
theorem zUM {a:zM} (h:a.devices.length≤1000) (hs:∀ d∈a.devices,wR d):sH a=some a.devices:=by
 unfold sH
 have e1:(eu 184 0 (a.devices.length:Int):Option (List zB))=some []:=by
  unfold eu
  rw [if_pos ⟨O,by omega,by omega,by omega⟩]
 rw [e1,AA]
 refine wH (fun i=>(a.devices.take i,(i:Int))) a.devices.length a.devices O (fun i hi=>?_) ?_ O
 ·simp only
  rw [decide_eq_true (by omega:(i:Int)<(a.devices.length:Int)),cond_true,xJ hi,AA,zMY (hs _ (List.getElem_mem hi)),AA,vE (by simp; omega) (by simp; omega),AA,yQ hi (by omega),xY hi]
 ·simp only
  rw [decide_eq_false (by omega:¬ (a.devices.length:Int)<(a.devices.length:Int)),cond_false,List.take_length]
theorem zJg {l:List zB} (h:l.length≤1000):mW l l=some true:=by
 unfold mW
 rw [show ((l.length:Int) != (l.length:Int))=false by simp,cond_false]
 refine wH (fun i=>(i:Int)) l.length (.inr ()) O (fun i hi=>?_) ?_ O
 ·rw [decide_eq_true (by omega:(i:Int)<(l.length:Int)),cond_true,xJ hi,AA,AA,zNL,AA,Bool.not_true,cond_false,yQ hi (by omega)]
 ·rw [decide_eq_false (by omega:¬ (l.length:Int)<(l.length:Int)),cond_false]
theorem zSV {l:List yE} (h:l.length≤1000):gV l l=some true:=by
 unfold gV
 rw [show ((l.length:Int) != (l.length:Int))=false by simp,cond_false]
 refine wH (fun i=>(i:Int)) l.length (.inr ()) O (fun i hi=>?_) ?_ O
 ·rw [decide_eq_true (by omega:(i:Int)<(l.length:Int)),cond_true,xJ hi,AA,AA,yQ hi (by omega)]
  simp
 ·rw [decide_eq_false (by omega:¬ (l.length:Int)<(l.length:Int)),cond_false]
theorem zRo {X:List zB} (h8:X.length≤8) (hX:∀ x∈X,wR x) {N M:List yX} {p m:Int} {o:List Int} (hp:p≠1) (d:zA) (f:yD) (s:zE) (r:zH):
  xE ⟨true,true,true,true,M⟩ d f ⟨true,X,N,p,pI,m,o⟩ s ⟨true,X,N,p,pI,m,o⟩ r=some (⟨true,X,N,p,pI,m,o⟩,true):=by
 unfold xE
 have hc:nD true=some true:=rfl
 have w1:rB ⟨true,X,N,p,pI,m,o⟩ 3=some []:=by unfold rB; rw [yF (by simpa using hp)]
 have w2:rW ⟨true,X,N,p,pI,m,o⟩ 3=some []:=by unfold rW; rw [yF (by simpa using hp)]
 have d1:=zUM (a:=⟨true,X,N,p,pI,m,o⟩) (by show X.length≤1000; omega) hX
 have d2:rE ⟨true,X,N,p,pI,m,o⟩=some (⟨true,X,N,p,pI,m,o⟩,X):=by
  unfold rE
  have:lX X=some X:=zEX (by omega) hX
  rw [this,AA]
 have v1:=zVi (a:=⟨true,X,N,p,pI,m,o⟩) (by show X.length≤1000; omega)
 have v2:=zUx (a:=⟨true,X,N,p,pI,m,o⟩) (by show X.length≤1000; omega)
 have e1:uY ⟨true,X,N,p,pI,m,o⟩=some p:=rfl
 have e2:qX ⟨true,X,N,p,pI,m,o⟩=some p:=rfl
 simp only [hc,AA,w1,w2,e1,e2,d1,d2,v1,v2]
 rw [show (((([]:List Int).length:Int) != (([]:List Int).length:Int)))=false from O,cond_false,show (p != p)=false by simp,cond_false,zJg (by omega),AA]
 simp only [Bool.not_true,cond_false]
 rw [zSV (by simp [kK]; omega),AA,AA]
 simp only [Bool.not_true,cond_false]
 exact wH (fun i=>(i:Int)) 0 (.inr ()) O (fun i hi=>by omega) O O
theorem dD {τ:Type} {d:zA} (h:Ar d) {L:List zB} (hL:∀ x∈L,wR x) (N:List yX) (b v:τ):
  (bnd (xH (⟨true,true,false,false,N⟩:uV) L L d (toF d)) fun r16=>sI r16.2.2.2.2.2 (bnd ((bif !r16.2.2.2.2.1 then (some true) else (bif (r16.2.2.2.1==0) then (bnd (xR (⟨r16.1.d,r16.1.f,false,false,r16.1.needs⟩:uV) r16.2.1 r16.2.2.1) fun YG=>some (!YG)) else (some false)):Option Bool)) fun o9=>bif o9 then (some b) else (some v)) (fun q5=>bnd ((bif !r16.2.2.2.2.1 then (some (true,q5.2.2.2)) else (bif (r16.2.2.2.1==0) then (bnd (xE r16.1 r16.2.1 r16.2.2.1 q5.2.2.1 q5.1 q5.2.2.2 q5.2.1) fun WY=>some (!WY.2,WY.1)) else (some (false,q5.2.2.2))):Option (Bool × zY))) fun Ep=>bif Ep.1 then (some b) else (some v)))=some v:=by
 obtain ⟨s,o1,o2,hs⟩:=zHA h
 have hop:∃ r,xH (⟨true,true,false,false,N⟩:uV) L L d (toF d)=some r∧r.2.2.2.2.1=true∧((r.2.2.2.2.2=none∧r.2.2.2.1≠0)∨∃ s1 r1 X p m o,r.2.2.2.2.2=some (s1,r1,⟨true,X,N,p,pI,m,o⟩,⟨true,X,N,p,pI,m,o⟩)∧r.2.2.2.1=0∧r.1=⟨true,true,true,true,N⟩∧p≠1∧X.length≤8∧∀ x∈X,wR x):=by
  unfold xH
  simp only [show nD true=some true from O,AA,o1,o2,sI,bne_self_eq_false,cond_false]
  rcases zUp h hs hL N with ⟨s1,d1,r1,f1,e,he,q1,q2⟩ | ⟨s1,d1,r1,f1,X,p,m,o,hp,h8,hX,q1,q2⟩
  ·simp only [q1,q2,AA]
   rw [show (e==0)=false by simpa using he,cond_false,AA,cond_false]
   exact ⟨_,O,by simp, .inl ⟨O,he⟩⟩
  ·simp only [q1,q2,AA]
   exact ⟨_,O,O, .inr ⟨s1,r1,X,p,m,o,O,O,O,hp,h8,hX⟩⟩
 obtain ⟨r,r1,r2,r3⟩:=hop
 rw [r1,AA,r2]
 rcases r3 with ⟨a1,a2⟩ | ⟨s1,rr,X,p,m,o,a1,a2,a3,hp,h8,hX⟩
 ·rw [a1]
  simp only [sI,Bool.not_true,cond_false]
  rw [show (r.2.2.2.1==0)=false by simpa using a2]
  rfl
 ·rw [a1,a2,a3]
  simp only [sI,Bool.not_true,cond_false]
  rw [show ((0:Int)==0)=true from O,cond_true,zRo h8 hX hp,AA,AA]
  rfl
theorem zVr {x:Option Bool} (h:∃ r,x=some r∧r=true):x=some true:=by
 obtain ⟨r,h1,rfl⟩:=h
 exact h1
theorem zRW (x:Int):0≤wrap .u8 x∧wrap .u8 x≤255:=by rw [eV]; omega
theorem zMo {α:Type} {l:List α} (h:l≠ []):Dt l=some ():=by
 cases l with
 | nil=>exact absurd O h
 | cons x l=>rfl
theorem zQH {c:yS} (hc:xG c):∃ r,pN c=some r∧xG r.1:=by
 unfold pN
 have hn:jQ=some [⟨#[98,105,111,115]⟩,⟨#[99,112,108,100]⟩,⟨#[109,101]⟩,⟨#[112,115,117]⟩,⟨#[120,45,49]⟩,⟨#[122,122]⟩]:=rfl
 rw [hn,AA]
 have he:∀ x:Int,0≤x→x<4→∃ y,BP ([⟨#[98,105,111,115]⟩,⟨#[99,112,108,100]⟩,⟨#[109,101]⟩,⟨#[112,115,117]⟩,⟨#[120,45,49]⟩,⟨#[122,122]⟩]:List ByteArray) x=some y:=fun x h0 h4=>by
  obtain ⟨k,rfl⟩:∃ k:Nat,x=(k:Int):=⟨x.toNat,by omega⟩
  exact ⟨_,xJ (by show k<6; omega)⟩
 refine uA (bC hc (n:=4) (by omega)) fun r2 ⟨a1,a2,a3⟩=>?_
 obtain ⟨x1,e1⟩:=he _ a2 a3
 rw [e1,AA]
 refine uA (bC a1 (n:=3) (by omega)) fun r3 ⟨b1,b2,b3⟩=>?_
 refine uA (bC b1 (n:=4) (by omega)) fun r4 ⟨c1,c2,c3⟩=>?_
 obtain ⟨x2,e2⟩:=he _ c2 c3
 rw [e2,AA]
 refine uA (bC c1 (n:=3) (by omega)) fun r5 ⟨d1,d2,d3⟩=>?_
 refine uA (P:=fun o:Bool × List Int × Int=>xG ⟨o.2.1,o.2.2⟩) ?_ fun o1 k1=>?_
 ·cases (x1.toList==x2.toList)
  ·exact ⟨_,O,d1⟩
  ·refine uA (bC d1 (n:=6) (by omega)) fun r6 ⟨f1,f2,f3⟩=>?_
   exact ⟨_,O,f1⟩
 ·cases o1.1
  ·exact ⟨_,O,k1⟩
  ·exact ⟨_,O,k1⟩
theorem zNE {c:yS} (hc:xG c):∃ r,xK c 3=some r∧xG r.1:=by
 unfold xK
 refine uA (bC hc (n:=wrap .i64 (3+1)) (by decide)) fun r1 ⟨a1,a2,a3⟩=>?_
 have h4:r1.2<4:=a3
 refine zAR (fun s=>xG ⟨s.2.2.1,s.2.2.2⟩∧0≤s.2.1∧(s.1.length:Int)+s.2.1≤3) (fun s=>s.2.1.toNat) (fun t=>xG ⟨t.2.1,t.2.2⟩) ⟨a1,a2,by simp; omega⟩ (fun s ⟨b1,b2,b3⟩=>?_) (fun t ht=>⟨_,O,ht⟩)
 by_cases h0:s.2.1>0
 ·rw [decide_eq_true h0,cond_true]
  refine uA (zQH b1) fun r2 k1=>?_
  rw [vE (by simp; omega) (by simp; omega),AA,zZ (by omega) (by omega)]
  exact ⟨_,O,⟨k1,by show 0≤s.2.1 - 1; omega,by show ((s.1++ [r2.2]).length:Int)+(s.2.1 - 1)≤3; simp; omega⟩,by show (s.2.1 - 1).toNat<s.2.1.toNat; omega⟩
 ·rw [decide_eq_false h0,cond_false]
  exact ⟨_,O,b1⟩
theorem fE {c:yS} (hc:xG c) (list:List yX):∃ o:List yX × List Int × Int,(bnd (zP c 2) fun r10=>bif (r10.2==0) then (bnd (xK r10.1 3) fun r11=>some (r11.2,r11.1.L,r11.1.At)) else (some (list,r10.1.L,r10.1.At)))=some o∧xG ⟨o.2.1,o.2.2⟩:=by
 refine uA (bC hc (n:=2) (by omega)) fun r10 ⟨a1,a2,a3⟩=>?_
 cases (r10.2==0)
 ·exact ⟨_,O,a1⟩
 ·refine uA (zNE a1) fun r11 k1=>?_
  exact ⟨_,O,k1⟩
theorem cL {τ:Type} {K:(Option zA × Int)→zA→(Option yD × Int)→yD→(zA × Option zE × Int)→zE→(yD × Option zH × Int)→zH→Option τ} {R:Option τ}
  (hk:∀ s,QS s 0 (DK (lP 2 1024) 0)→K (some (lP 2 1024),0) (lP 2 1024) (some (toF (lP 2 1024)),0) (toF (lP 2 1024)) (lP 2 1024,some s,0) s (toF (lP 2 1024),some (oB 0 (DK (lP 2 1024) 0)),0) (oB 0 (DK (lP 2 1024) 0))=R):
  (bnd (uJ 2 1024) fun r12=>sI r12.1 none (fun q1=>bnd (tB 2 1024) fun r13=>sI r13.1 none (fun q2=>bnd (xN q1 0) fun QN=>sI QN.2.1 none (fun q3=>bnd (vH q2 0) fun QO=>sI QO.2.1 none (fun q4=>K r12 q1 r13 q2 QN q3 QO q4)))))=R:=by
 obtain ⟨s,o1,o2,o3⟩:=zHA dT
 have n1:uJ 2 1024=some (some (lP 2 1024),0):=zTt (n:=2) (m:=1024) (by omega) (by omega)
 have n2:tB 2 1024=some (some (toF (lP 2 1024)),0):=zOp (n:=2) (m:=1024) (by omega) (by omega)
 simp only [n1,n2,AA,sI,o1,o2]
 exact hk s o3
theorem zLI (codes DF:List Int) (raw:List zB) (list:List yX) (nl:Bool) (h:di (IX .u8) codes) (hj:di (IX .u8) DF) (hr:∀ x∈raw,wR x):nW codes DF raw list nl=some true:=by
 unfold nW
 rw [show fI=some true from O,AA,Bool.not_true,cond_false]
 by_cases h1:(raw.length:Int)>12
 ·rw [decide_eq_true h1]; rfl
 rw [decide_eq_false h1,cond_false]
 by_cases h2:(list.length:Int)>40
 ·rw [decide_eq_true h2]; rfl
 rw [decide_eq_false h2,cond_false]
 by_cases h3:(DF.length:Int)>28
 ·rw [decide_eq_true h3]; rfl
 rw [decide_eq_false h3,AA,cond_false]
 have hjr:DN DF:=fun x hx=>Ad.1 (hj.1 x hx)
 obtain ⟨c,e1,hc⟩:=zOB h (most:=300) (by omega) (by omega)
 rw [e1,AA]
 refine zVr ?_
 refine uA (bC hc (n:=3) (by omega)) fun r3 ⟨a1,a2,a3⟩=>?_
 obtain ⟨n,hn⟩:∃ n:Nat,r3.2=(n:Int):=⟨r3.2.toNat,by omega⟩
 have hs:sub ([⟨#[98,105,111,115]⟩,⟨#[99,112,108,100]⟩,⟨#[109,101]⟩]:List ByteArray) 0 (wrap .i64 (1+r3.2))=some (([⟨#[98,105,111,115]⟩,⟨#[99,112,108,100]⟩,⟨#[109,101]⟩]:List ByteArray).take (n+1)):=by
  rw [hn,show (1+(n:Int))=((n+1:Nat):Int) by omega,xP (by omega)]
  unfold sub
  rw [if_pos ⟨by omega,by omega,by show ((n+1:Nat):Int)≤3; omega⟩]
  simp
 rw [hs,AA]
 have hlen:(([⟨#[98,105,111,115]⟩,⟨#[99,112,108,100]⟩,⟨#[109,101]⟩]:List ByteArray).take (n+1)).length=n+1:=by rw [List.length_take]; show min (n+1) 3=_; omega
 have hnm:∀ x∈(([⟨#[98,105,111,115]⟩,⟨#[99,112,108,100]⟩,⟨#[109,101]⟩]:List ByteArray).take (n+1)),rS x=true:=fun x hx=>by
  have:=List.mem_of_mem_take hx
  simp only [List.mem_cons,List.not_mem_nil,or_false] at this
  rcases this with rfl | rfl | rfl <;> decide+kernel
 generalize ([⟨#[98,105,111,115]⟩,⟨#[99,112,108,100]⟩,⟨#[109,101]⟩]:List ByteArray).take (n+1)=T at*
 refine zAR (fun s=>xG ⟨s.2.2.1,s.2.2.2⟩∧∃ i:Nat,s.2.1=(i:Int)∧i≤T.length∧s.1.length=i∧∀ d∈s.1,wR d) (fun s=>T.length - s.2.1.toNat)
  (fun t=>xG ⟨t.2.1,t.2.2⟩∧1≤t.1.length∧∀ d∈t.1,wR d) ⟨a1,0,O,Nat.zero_le _,O,fun d hd=>by cases hd⟩ (fun s ⟨b1,i,b2,b3,b4,b5⟩=>?_) (fun o2 ⟨b1,b2,b3⟩=>?_)
 ·rw [b2]
  by_cases hi:i<T.length
  ·rw [decide_eq_true (by omega:(i:Int)<(T.length:Int)),cond_true,xJ hi,AA]
   obtain ⟨c',d,d1,d2,d3⟩:=zOw b1 (hnm _ (List.getElem_mem hi))
   rw [d1,AA,vE (by simp; omega) (by simp; omega),AA,yQ hi (by omega)]
   refine ⟨_,O,⟨d2,i+1,O,by omega,by simp [b4],fun x hx=>?_⟩,?_⟩
   ·rcases List.mem_append.1 hx with hx | hx
    ·exact b5 x hx
    ·rw [List.mem_singleton.1 hx]; exact d3.sm
   ·show T.length - ((i+1:Nat):Int).toNat<T.length - (i:Int).toNat
    simp only [Int.toNat_natCast]; omega
  ·rw [decide_eq_false (by omega:¬ (i:Int)<(T.length:Int)),cond_false]
   exact ⟨_,O,b1,by show 1≤s.1.length; omega,b5⟩
 refine uA (P:=fun o:List zB × List Int × Int=>xG ⟨o.2.1,o.2.2⟩∧∀ d∈o.1,wR d) ?_ fun o3 ⟨k1,k2⟩=>?_
 ·refine uA (bC b1 (n:=10) (by omega)) fun r5 ⟨c1,c2,c3⟩=>?_
  by_cases h9:r5.2=9
  ·rw [yF (by simpa using h9)]
   have h0:0<o2.1.length:=b2
   have e0:BP o2.1 0=some o2.1[0]:=xJ (i:=0) h0
   have es:∀ y,rJ o2.1 0 y=some (o2.1.set 0 y):=fun y=>zQy (i:=0) h0
   rw [e0,AA,es,AA]
   refine ⟨_,O,c1,fun x hx=>?_⟩
   rcases List.mem_or_eq_of_mem_set hx with hx | hx
   ·exact b3 x hx
   ·rw [hx]; exact (show wR o2.1[0] from b3 _ (List.getElem_mem h0))
  ·rw [zX (by simpa using h9)]
   exact ⟨_,O,c1,b3⟩
 refine uA (bC k1 (n:=3) (by omega)) fun r6 ⟨c1,c2,c3⟩=>?_
 refine uA (bC c1 (n:=8) (by omega)) fun r7 ⟨d1,d2,d3⟩=>?_
 refine uA (bC d1 (n:=4) (by omega)) fun r8 ⟨f1,f2,f3⟩=>?_
 refine zAR (fun s=>xG ⟨s.2.2.1,s.2.2.2⟩∧0≤s.2.1∧(s.1.length:Int)+s.2.1≤5∧s.1≠ []∧DN s.1) (fun s=>s.2.1.toNat) (fun t=>xG ⟨t.2.1,t.2.2⟩∧t.1.length≤28∧t.1≠ []∧DN t.1)
  ⟨f1,f2,by simp; omega,by simp,fun x hx=>by
   simp only [List.mem_cons,List.not_mem_nil,or_false] at hx
   rcases hx with rfl | rfl <;> exact zRW _⟩ (fun s ⟨g1,g2,g3,g4,g5⟩=>?_) (fun o4 ⟨m1,m2,m3,m4⟩=>?_)
 ·by_cases h0:s.2.1>0
  ·rw [decide_eq_true h0,cond_true]
   refine uA (bC g1 (n:=4) (by omega)) fun r9 ⟨u1,u2,u3⟩=>?_
   rw [vE (by simp; omega) (by simp; omega),AA,zZ (by omega) (by omega)]
   refine ⟨_,O,⟨u1,by show 0≤s.2.1 - 1; omega,by show ((s.1++ [_]).length:Int)+(s.2.1 - 1)≤5; simp; omega,by simp,fun x hx=>?_⟩,by show (s.2.1 - 1).toNat<s.2.1.toNat; omega⟩
   rcases List.mem_append.1 hx with hx | hx
   ·exact g5 x hx
   ·rw [List.mem_singleton.1 hx]; exact zRW _
  ·rw [decide_eq_false h0,cond_false]
   exact ⟨_,O,g1,by show s.1.length≤28; omega,g4,g5⟩
 have hz:((0:Int) != 0)=false:=rfl
 have hc1:=zMo m3
 -- no DF
 refine uA (P:=fun o=>∃ L A,o= .inr (o3.1,o3.1,L,A)∧xG ⟨L,A⟩) ?_ fun o5 ⟨L5,A5,hq,hc5⟩=>?_
 ·refine uA (fE m1 list) fun o7 q1=>?_
  refine ⟨_,cL (R:=some (.inr (o3.1,o3.1,o7.2.1,o7.2.2))) fun s hs=>?_,_,_,O,q1⟩
  simp only [hz,cond_false,AA]
  exact dD dT k2 o7.1 _ _
 subst hq
 rw [DZ]
 refine uA (P:=fun o=>∃ L A,o= .inr (L,A)∧xG ⟨L,A⟩) ?_ fun Ti ⟨L6,A6,hq,hc6⟩=>?_
 ·refine uA (fE hc5 list) fun PI q1=>?_
  refine ⟨_,cL (R:=some (.inr (PI.2.1,PI.2.2))) fun s hs=>?_,_,_,O,q1⟩
  simp only [hz,cond_false,AA]
  exact dD dT hr PI.1 _ _
 subst hq
 rw [DZ]
 -- the DF that is given
 refine uA (P:=fun o=>∃ L A,o= .inr (L,A)∧xG ⟨L,A⟩) ?_ fun Tv ⟨L7,A7,hq,hc7⟩=>?_
 ·refine uA (fE hc6 list) fun OM q1=>?_
  refine ⟨_,cL (R:=some (.inr (OM.2.1,OM.2.2))) fun s hs=>?_,_,_,O,q1⟩
  obtain ⟨s',r',d',p1,p2,p3⟩:=Wn hjr (by omega) hs
  simp only [hz,cond_false,AA]
  cases nl
  ·simp only [Bool.not_false,cond_true,p1,p2,AA,hz,cond_false]
   exact dD p3 k2 OM.1 _ _
  ·simp only [Bool.not_true,cond_false,AA]
   exact dD dT k2 OM.1 _ _
 subst hq
 rw [DZ]
 refine uA (P:=fun o=>∃ L A,o= .inr (L,A)∧xG ⟨L,A⟩) ?_ fun Ue ⟨L8,A8,hq,hc8⟩=>?_
 ·refine uA (fE hc7 list) fun OO q1=>?_
  refine ⟨_,cL (R:=some (.inr (OO.2.1,OO.2.2))) fun s hs=>?_,_,_,O,q1⟩
  obtain ⟨s',r',d',p1,p2,p3⟩:=Wn hjr (by omega) hs
  simp only [hz,cond_false,AA]
  cases nl
  ·simp only [Bool.not_false,cond_true,p1,p2,AA,hz,cond_false]
   exact dD p3 hr OO.1 _ _
  ·simp only [Bool.not_true,cond_false,AA]
   exact dD dT hr OO.1 _ _
 subst hq
 rw [DZ]
 -- the DF that is made
 refine uA (P:=fun o=>∃ L A,o= .inr (o4.1,o4.1,L,A)∧xG ⟨L,A⟩) ?_ fun Uj ⟨L9,A9,hq,hc9⟩=>?_
 ·refine uA (fE hc8 list) fun PK q1=>?_
  refine ⟨_,cL (R:=some (.inr (o4.1,o4.1,PK.2.1,PK.2.2))) fun s hs=>?_,_,_,O,q1⟩
  obtain ⟨s',r',d',p1,p2,p3⟩:=Wn m4 m2 hs
  simp only [hz,cond_false,AA,hc1,p1,p2]
  exact dD p3 k2 PK.1 _ _
 subst hq
 rw [DZ]
 refine uA (P:=fun o=>∃ v,o= .inr v) ?_ fun Uo ⟨v,hq⟩=>?_
 ·refine uA (fE hc9 list) fun PL q1=>?_
  refine ⟨_,cL (R:=some (.inr (o4.1,PL.2.1,PL.2.2))) fun s hs=>?_,_,O⟩
  obtain ⟨s',r',d',p1,p2,p3⟩:=Wn m4 m2 hs
  simp only [hz,cond_false,AA,hc1,p1,p2]
  exact dD p3 hr PL.1 _ _
 subst hq
 rw [DZ]
 exact ⟨_,O,O⟩
open Go Go.ChangeShapes Go.WideShapes Go.ChangeAt Go.RowKit
theorem zLy:ML Tryz.prog zKn uB 56:=by
 intro H enc w base sp held fuel cs x h
 obtain ⟨xs,n,_,_,hlen,hxl,hf⟩:=DataW.trod_struct Tryz.underlying56 h
 rw [show Tryz.prog.cellsOf 56=3 by kernel_rfl] at hlen
 replace hxl:xs.length=3:=hxl
 match cs,hlen with
 | [c0,c1,c2],_=>
  obtain ⟨z0,hz0⟩:=fN (k:=1) (sub:= [c0]) (hf 0 _ rfl) (by omega) (by kernel_rfl) O
  obtain ⟨y0,r0,p0⟩:=(gX Tryz.underlying3:ML Tryz.prog Dz (IX .i64) 3) hz0
  obtain ⟨NW,_⟩:=r0
  obtain ⟨z1,hz1⟩:=fN (k:=1) (sub:= [c1]) (hf 1 _ rfl) (by omega) (by kernel_rfl) O
  obtain ⟨y1,r1,p1⟩:=(gX Tryz.underlying3:ML Tryz.prog Dz (IX .i64) 3) hz1
  obtain ⟨NY,_⟩:=r1
  obtain ⟨z2,hz2⟩:=fN (k:=1) (sub:= [c2]) (hf 2 _ rfl) (by omega) (by kernel_rfl) O
  obtain ⟨y2,r2,p2⟩:=(gX Tryz.underlying3:ML Tryz.prog Dz (IX .i64) 3) hz2
  obtain ⟨SK,_⟩:=r2
  exact ⟨⟨y0,y1,y2⟩,⟨NW,NY,SK,trivial⟩,p0,p1,p2⟩
theorem zTj:dG Tryz.prog (zT tJ) (fun y:zN=>okS y.Name∧uB y.Version∧(VH (IX .u8) 1) y.Data) 58:=by
 intro H enc w base sp held fuel cs x h hw
 obtain ⟨xs,n,_,hx,hlen,hxl,hf⟩:=DataW.trod_struct Tryz.underlying58 h
 subst hx
 rw [show Tryz.prog.cellsOf 58=5 by kernel_rfl] at hlen
 replace hxl:xs.length=3:=hxl
 match cs,hlen with
 | [c0,c1,c2,c3,c4],_=>
  obtain ⟨z0,w0,hz0⟩:=oJ (k:=1) (sub:= [c0]) (hf 0 _ rfl) (by omega) (by kernel_rfl) O
  obtain ⟨y0,r0,p0⟩:=(ZG (Qb Tryz.underlying9:ML Tryz.prog Rh okS 9)) hz0 (dH Tryz.underlying58 hw (i:=0) rfl w0)
  obtain ⟨NW,_⟩:=r0
  obtain ⟨z1,w1,hz1⟩:=oJ (k:=3) (sub:= [c1,c2,c3]) (hf 1 _ rfl) (by omega) (by kernel_rfl) O
  obtain ⟨y1,r1,p1⟩:=(ZG zLy) hz1 (dH Tryz.underlying58 hw (i:=1) rfl w1)
  obtain ⟨NY,SL,SN,_⟩:=r1
  obtain ⟨z2,w2,hz2⟩:=oJ (k:=1) (sub:= [c4]) (hf 2 _ rfl) (by omega) (by kernel_rfl) O
  obtain ⟨y2,r2,p2⟩:=(zHW Tryz.underlying22 (by kernel_rfl) (by decide) (by kernel_rfl) (ZG (Qc (gX Tryz.underlying5:ML Tryz.prog x9 (IX .u8) 5) (fun y ex=>O))):dG Tryz.prog (zT l9) (VH (IX .u8) 1) 22) hz2 (dH Tryz.underlying58 hw (i:=2) O w2)
  obtain ⟨SK,_⟩:=r2
  exact ⟨⟨y0,y1,y2⟩,⟨NW,NY,SL,SN,SK,trivial⟩,p0,p1,p2⟩
theorem zPs:dG Tryz.prog (zT vO) (fun y:yA=>(fun y:zN=>okS y.Name∧uB y.Version∧(VH (IX .u8) 1) y.Data) y.AU∧(IX .u32) y.Sum) 61:=by
 intro H enc w base sp held fuel cs x h hw
 obtain ⟨xs,n,_,hx,hlen,hxl,hf⟩:=DataW.trod_struct Tryz.underlying61 h
 subst hx
 rw [show Tryz.prog.cellsOf 61=6 by kernel_rfl] at hlen
 replace hxl:xs.length=2:=hxl
 match cs,hlen with
 | [c0,c1,c2,c3,c4,c5],_=>
  obtain ⟨z0,w0,hz0⟩:=oJ (k:=5) (sub:= [c0,c1,c2,c3,c4]) (hf 0 _ rfl) (by omega) (by kernel_rfl) O
  obtain ⟨y0,r0,p0⟩:=zTj hz0 (dH Tryz.underlying61 hw (i:=0) rfl w0)
  obtain ⟨NW,su,tq,tu,uf,_⟩:=r0
  obtain ⟨z1,w1,hz1⟩:=oJ (k:=1) (sub:= [c5]) (hf 1 _ rfl) (by omega) (by kernel_rfl) O
  obtain ⟨y1,r1,p1⟩:=(ZG (gX Tryz.underlying59:ML Tryz.prog zUY (IX .u32) 59)) hz1 (dH Tryz.underlying61 hw (i:=1) rfl w1)
  obtain ⟨NY,_⟩:=r1
  exact ⟨⟨y0,y1⟩,⟨NW,su,tq,tu,uf,NY,trivial⟩,p0,p1⟩
theorem zTV:dG Tryz.prog (zT zKH) (fun y:(tH yA)=>(fun y:yA=>(fun y:zN=>okS y.Name∧uB y.Version∧(VH (IX .u8) 1) y.Data) y.AU∧(IX .u32) y.Sum) y.e0∧(fun y:yA=>(fun y:zN=>okS y.Name∧uB y.Version∧(VH (IX .u8) 1) y.Data) y.AU∧(IX .u32) y.Sum) y.e1) 62:=by
 intro H enc w base sp held fuel cs x h hw
 obtain ⟨xs,n,_,hx,hlen,hxl,hf⟩:=DataW.trod_array Tryz.underlying62 h
 subst hx
 rw [show Tryz.prog.cellsOf 62=12 by kernel_rfl] at hlen
 replace hxl:xs.length=2:=hxl
 match cs,hlen with
 | [c0,c1,c2,c3,c4,c5,c6,c7,c8,c9,c10,c11],_=>
  have hf0:=hf 0 (by omega)
  rw [show Tryz.prog.cellsOf 61=6 by kernel_rfl] at hf0
  obtain ⟨z0,w0⟩:∃ y,xs[0]? =some y:=⟨_,List.getElem?_eq_getElem (by omega)⟩
  have hz0:DataW.trod enc Tryz.prog w base sp held n 61 [c0,c1,c2,c3,c4,c5]=some z0:=by rw [←w0]; exact hf0
  obtain ⟨y0,r0,p0⟩:=zPs hz0 (zMx Tryz.underlying62 hw w0)
  obtain ⟨NW,su,tq,tu,uf,aCs,_⟩:=r0
  have hf1:=hf 1 (by omega)
  rw [show Tryz.prog.cellsOf 61=6 by kernel_rfl] at hf1
  obtain ⟨z1,w1⟩:∃ y,xs[1]? =some y:=⟨_,List.getElem?_eq_getElem (by omega)⟩
  have hz1:DataW.trod enc Tryz.prog w base sp held n 61 [c6,c7,c8,c9,c10,c11]=some z1:=by rw [←w1]; exact hf1
  obtain ⟨y1,r1,p1⟩:=zPs hz1 (zMx Tryz.underlying62 hw w1)
  obtain ⟨NY,SL,SN,ug,uh,uj,_⟩:=r1
  exact ⟨⟨y0,y1⟩,⟨NW,su,tq,tu,uf,aCs,NY,SL,SN,ug,uh,uj,trivial⟩,p0,p1⟩
theorem zUu:dG Tryz.prog (zT zC) (fun y:zB=>okS y.Name∧(fun y:(tH yA)=>(fun y:yA=>(fun y:zN=>okS y.Name∧uB y.Version∧(VH (IX .u8) 1) y.Data) y.AU∧(IX .u32) y.Sum) y.e0∧(fun y:yA=>(fun y:zN=>okS y.Name∧uB y.Version∧(VH (IX .u8) 1) y.Data) y.AU∧(IX .u32) y.Sum) y.e1) y.Slots∧(IX .i64) y.Active∧(IX .i64) y.Running∧okB y.BK) 64:=by
 intro H enc w base sp held fuel cs x h hw
 obtain ⟨xs,n,_,hx,hlen,hxl,hf⟩:=DataW.trod_struct Tryz.underlying64 h
 subst hx
 rw [show Tryz.prog.cellsOf 64=16 by kernel_rfl] at hlen
 replace hxl:xs.length=5:=hxl
 match cs,hlen with
 | [c0,c1,c2,c3,c4,c5,c6,c7,c8,c9,c10,c11,c12,c13,c14,c15],_=>
  obtain ⟨z0,w0,hz0⟩:=oJ (k:=1) (sub:= [c0]) (hf 0 _ rfl) (by omega) (by kernel_rfl) O
  obtain ⟨y0,r0,p0⟩:=(ZG (Qb Tryz.underlying9:ML Tryz.prog Rh okS 9)) hz0 (dH Tryz.underlying64 hw (i:=0) rfl w0)
  obtain ⟨NW,_⟩:=r0
  obtain ⟨z1,w1,hz1⟩:=oJ (k:=12) (sub:= [c1,c2,c3,c4,c5,c6,c7,c8,c9,c10,c11,c12]) (hf 1 _ rfl) (by omega) (by kernel_rfl) O
  obtain ⟨y1,r1,p1⟩:=zTV hz1 (dH Tryz.underlying64 hw (i:=1) rfl w1)
  obtain ⟨NY,SL,SN,ug,uh,uj,aCt,aCu,aCv,aCw,Oi,Oj,_⟩:=r1
  obtain ⟨z2,w2,hz2⟩:=oJ (k:=1) (sub:= [c13]) (hf 2 _ rfl) (by omega) (by kernel_rfl) O
  obtain ⟨y2,r2,p2⟩:=(ZG (gX Tryz.underlying3:ML Tryz.prog Dz (IX .i64) 3)) hz2 (dH Tryz.underlying64 hw (i:=2) rfl w2)
  obtain ⟨SK,_⟩:=r2
  obtain ⟨z3,w3,hz3⟩:=oJ (k:=1) (sub:= [c14]) (hf 3 _ rfl) (by omega) (by kernel_rfl) O
  obtain ⟨y3,r3,p3⟩:=(ZG (gX Tryz.underlying3:ML Tryz.prog Dz (IX .i64) 3)) hz3 (dH Tryz.underlying64 hw (i:=3) rfl w3)
  obtain ⟨ul,_⟩:=r3
  obtain ⟨z4,w4,hz4⟩:=oJ (k:=1) (sub:= [c15]) (hf 4 _ rfl) (by omega) (by kernel_rfl) O
  obtain ⟨y4,r4,p4⟩:=(ZG (zOQ Tryz.underlying4:ML Tryz.prog zTr okB 4)) hz4 (dH Tryz.underlying64 hw (i:=4) rfl w4)
  obtain ⟨aCx,_⟩:=r4
  exact ⟨⟨y0,y1,y2,y3,y4⟩,⟨NW,NY,SL,SN,ug,uh,uj,aCt,aCu,aCv,aCw,Oi,Oj,SK,ul,aCx,trivial⟩,p0,p1,p2,p3,p4⟩
theorem zRs:ML Tryz.prog zPL zIl 123:=by
 intro H enc w base sp held fuel cs x h
 obtain ⟨xs,n,_,_,hlen,hxl,hf⟩:=DataW.trod_struct Tryz.underlying123 h
 rw [show Tryz.prog.cellsOf 123=8 by kernel_rfl] at hlen
 replace hxl:xs.length=4:=hxl
 match cs,hlen with
 | [c0,c1,c2,c3,c4,c5,c6,c7],_=>
  obtain ⟨z0,hz0⟩:=fN (k:=1) (sub:= [c0]) (hf 0 _ rfl) (by omega) (by kernel_rfl) O
  obtain ⟨y0,r0,p0⟩:=(Qb Tryz.underlying9:ML Tryz.prog Rh okS 9) hz0
  obtain ⟨NW,_⟩:=r0
  obtain ⟨z1,hz1⟩:=fN (k:=3) (sub:= [c1,c2,c3]) (hf 1 _ rfl) (by omega) (by kernel_rfl) O
  obtain ⟨y1,r1,p1⟩:=zLy hz1
  obtain ⟨NY,SL,SN,_⟩:=r1
  obtain ⟨z2,hz2⟩:=fN (k:=1) (sub:= [c4]) (hf 2 _ rfl) (by omega) (by kernel_rfl) O
  obtain ⟨y2,r2,p2⟩:=(Qb Tryz.underlying9:ML Tryz.prog Rh okS 9) hz2
  obtain ⟨SK,_⟩:=r2
  obtain ⟨z3,hz3⟩:=fN (k:=3) (sub:= [c5,c6,c7]) (hf 3 _ rfl) (by omega) (by kernel_rfl) O
  obtain ⟨y3,r3,p3⟩:=zLy hz3
  obtain ⟨ul,aCy,aCz,_⟩:=r3
  exact ⟨⟨y0,y1,y2,y3⟩,⟨NW,NY,SL,SN,SK,ul,aCy,aCz,trivial⟩,p0,p1,p2,p3⟩
def zVH (g:Nat) (es:List MapEntry) (w:World):World:= { w with heap:=(w.heap.push (.map es.toArray es.length)).modify g fun
  | .cells _ t frozen=>.cells #[.map (some w.heap.size)] t frozen
  | o=>o }
def laidWorld (os:Os):World:=zVH 0 [⟨.int .i64 2, .func (.func 315) #[] #[],0⟩,⟨.int .i64 3, .func (.func 316) #[] #[],1⟩] ((World.holding Tryz.prog os ⟨#[],#[], []⟩))
theorem zPP (os:Os) (args:Array Value):laidMetH Tryz.prog Rows.updateOpensRow.laid ((laidWorld os).forCall (fun _ _=>0) ⟨#[],args, []⟩).memory:=
 laidMetH_of_parts3 (fuel:=20) (laidMet_of_run3 20 (by kernel_rfl) (by kernel_rfl) (by kernel_rfl)) (by kernel_rfl) (by kernel_rfl)
set_option maxRecDepth 100000 in
theorem zCc (os:Os) (started:os.Started) (H:Type) (enc:TypeId × Value→H):
  ReturnsInHanded {} Tryz.checked os 6 .any (fun w args=>(Rows.updateOpensSpec.pre enc Tryz.prog Tryz.f6 Rows.updateOpensRow.domain false w args∧laidMetH Tryz.prog Rows.updateOpensRow.laid w)∧sizedMet enc Tryz.prog Tryz.f6 (OpenSpec.ofChange Rows.updateOpensSpec) false w args) (Rows.updateOpensSpec.post enc Tryz.prog Tryz.f6 false true false false):=by
 refine returnsInHanded_of_change_and (C:=Tryz.checked) (X:=fun w _=>laidMetH Tryz.prog Rows.updateOpensRow.laid w) (fun _ _ _ hh h=>h.of_heap hh) Tryz.own' started (by kernel_rfl) Tryz.func6
  (ChangeSpec.witness_shaped (enc:=enc) (C:=Tryz.checked) (os:=os) (X:=fun w _=>laidMetH Tryz.prog Rows.updateOpensRow.laid w) false (laidWorld os) #[.slice none 0 0, .slice none 0 0, .slice none 0 0, .slice none 0 0] 8 O (World.shaped_of_RefB (by kernel_rfl) (by kernel_rfl)) (by kernel_rfl) (by kernel_rfl) (by kernel_rfl) (zPP os _)) ?_
 intro W base args ds gs before hval0 hW hcnd hwt hL _
 have hval:∀ (j:Nat) t v,Tryz.f6.params[j]? =some t→args[j]? =some v→Value.okWide Tryz.prog W .any base t v:=hval0
 clear hval0 hcnd
 have hW':=hW
 obtain ⟨p,q,hA0,hV,_,_,_⟩:=hW
 obtain ⟨rfl,_⟩:=trodVars_none hV
 have hA:DataW.TrodAll enc Tryz.prog W 0 (fun _=>true) true Tryz.f6.params.toList args.toList ds p:=hA0
 rw [Tryz.params6] at hA hval hwt
 obtain ⟨args⟩:=args
 obtain ⟨v0,vs0,d0,ds0,p0,q0,hvs,rfl,_,h0,hB0⟩:=trodAll_cons hA
 replace hvs:args=_:=hvs
 subst hvs
 obtain ⟨v1,vs1,d1,ds1,p1,q1,rfl,rfl,_,h1,hB1⟩:=trodAll_cons hB0
 obtain ⟨v2,vs2,d2,ds2,p2,q2,rfl,rfl,_,h2,hB2⟩:=trodAll_cons hB1
 obtain ⟨v3,vs3,d3,ds3,p3,q3,rfl,rfl,_,h3,hB3⟩:=trodAll_cons hB2
 obtain ⟨rfl,rfl,_⟩:=trodAll_nil hB3
 obtain ⟨x0,ex0,e0,k0,f0⟩:=Yt (Yr Tryz.underlying22 (by kernel_rfl) (by decide) (Qc (gX Tryz.underlying5:ML Tryz.prog x9 (IX .u8) 5) (fun y ex=>rfl)):ML Tryz.prog l9 (di (IX .u8)) 22) h0
 obtain ⟨⟨Ol,Om⟩,_⟩:=ex0
 obtain ⟨A0,l0,c0,rfl⟩:=okWide_slice Tryz.underlying22 (hval 0 22 v0 rfl rfl)
 obtain ⟨rfl,rfl,rfl⟩:Ol=A0∧x0.length=l0∧Om=c0:=by injection e0 with e _; injection e with e1 e2 e3; exact ⟨e1.symm,e2.symm,e3.symm⟩
 obtain ⟨x1,FC,e1,k1,f1⟩:=Yt (Yr Tryz.underlying22 (by kernel_rfl) (by decide) (Qc (gX Tryz.underlying5:ML Tryz.prog x9 (IX .u8) 5) (fun y ex=>rfl)):ML Tryz.prog l9 (di (IX .u8)) 22) h1
 obtain ⟨⟨um,Oo⟩,_⟩:=FC
 obtain ⟨A1,l1,c1,rfl⟩:=okWide_slice Tryz.underlying22 (hval 1 22 v1 rfl rfl)
 obtain ⟨rfl,rfl,rfl⟩:um=A1∧x1.length=l1∧Oo=c1:=by injection e1 with e _; injection e with e1 e2 e3; exact ⟨e1.symm,e2.symm,e3.symm⟩
 have aC0:∀ n∈d2.weights Tryz.prog 27,n≤reachBytes:=fun n hn=>of_decide_eq_true (List.all_eq_true.1 hwt n (Zb (i:=2) O O hn))
 obtain ⟨x2,JQ,e2,k2,f2⟩:=zOz (zHW Tryz.underlying27 (by kernel_rfl) (by decide) (by kernel_rfl) zUu:dG Tryz.prog (zT zDl) (VH (fun y:zB=>okS y.Name∧(fun y:(tH yA)=>(fun y:yA=>(fun y:zN=>okS y.Name∧uB y.Version∧(VH (IX .u8) 1) y.Data) y.AU∧(IX .u32) y.Sum) y.e0∧(fun y:yA=>(fun y:zN=>okS y.Name∧uB y.Version∧(VH (IX .u8) 1) y.Data) y.AU∧(IX .u32) y.Sum) y.e1) y.Slots∧(IX .i64) y.Active∧(IX .i64) y.Running∧okB y.BK) 184) 27) h2 aC0
 obtain ⟨⟨Oq,Ot⟩,_⟩:=JQ
 obtain ⟨A2,l2,c2,rfl⟩:=okWide_slice Tryz.underlying27 (hval 2 27 v2 rfl rfl)
 obtain ⟨rfl,rfl,rfl⟩:Oq=A2∧x2.length=l2∧Ot=c2:=by injection e2 with e _; injection e with e1 e2 e3; exact ⟨e1.symm,e2.symm,e3.symm⟩
 obtain ⟨x3,MX,e3,k3,f3⟩:=Yt (Yr Tryz.underlying29 (by kernel_rfl) (by decide) (Qc zRs (fun y ex=>rfl)):ML Tryz.prog zKi (di zIl) 29) h3
 obtain ⟨⟨Ou,Ov⟩,_⟩:=MX
 obtain ⟨A3,l3,c3,rfl⟩:=okWide_slice Tryz.underlying29 (hval 3 29 v3 rfl rfl)
 obtain ⟨rfl,rfl,rfl⟩:Ou=A3∧x3.length=l3∧Ov=c3:=by injection e3 with e _; injection e with e1 e2 e3; exact ⟨e1.symm,e2.symm,e3.symm⟩
 have hg0:(TS 0 [(2,some 315),(3,some 316)]).p (hp W):=zOf (l:=Rows.updateOpensRow.laid) (nm:= "baseboard/update.steps") (t:=148) (k:=3) (e:=147) hL (List.Mem.head _) (by kernel_rfl) (by kernel_rfl) Tryz.underlying148 Tryz.underlying3 Tryz.underlying147 ⟨O,by kernel_rfl,⟨O,by kernel_rfl,trivial⟩⟩ (by decide)
 have JX:=zNa (w:=W) [AV AQ Ol Om x0,AV AQ um Oo x1,Sl (zT zC) Oq Ot x2,AV zS Ou Ov x3,TS 0 [(2,some 315),(3,some 316)]] (by simp only [List.mem_cons,List.not_mem_nil,or_false,forall_eq_or_imp,forall_eq]; exact ⟨f0 _ (.head _),f1 _ (.head _),f2 _ (.head _),f3 _ (.head _),hg0⟩)
 have hm:=zLI x0 x1 x2 x3 um.isNone k0 k1 (fun x hx=>(show qB _∧qB _ from ⟨zVA (k2.1 x hx).2.1.1.1.2.2.2,zVA (k2.1 x hx).2.1.2.1.2.2.2⟩))
 refine ((zBl O hm).quiet O ⟨(.head _),EO,MQ,XI,(.tail _ (.tail _ (.tail _ (.tail _ (.head _))))),trivial⟩ JX).mono fun e W' ⟨he,hw⟩=>?_
 subst he
 exact ⟨_,O,zPK Tryz.laid' O O Tryz.underlying4 (by kernel_rfl) O hW' hw⟩
open Go Go.ChangeShapes Go.WideShapes Go.ChangeAt Go.RowKit
theorem zFl:(Rows.updateOpensRow.inPlace==Tryz.checked.prog.inPlace 6)=true:=by kernel_rfl
open Go Go.ChangeShapes Go.WideShapes Go.ChangeAt Go.RowKit
theorem zGJ:(Rows.updateOpensRow.unfollowed==Tryz.checked.prog.unfollowed 6)=true:=by kernel_rfl
open Go Go.ChangeShapes Go.WideShapes Go.ChangeAt Go.RowKit
theorem zFX:(Rows.updateOpensRow.recurses==Tryz.checked.prog.recurses 6)=true:=by kernel_rfl
open Go Go.ChangeShapes Go.WideShapes Go.ChangeAt Go.RowKit
theorem zGj:(Rows.updateOpensRow.named==Tryz.checked.prog.varsNamed 6)=true:=by kernel_rfl
open Go Go.ChangeShapes Go.WideShapes Go.ChangeAt Go.RowKit
theorem zCd:joinedFacts Tryz.checked.prog 6 Tryz.f6 Rows.updateOpensSpec Rows.updateOpensRow=true:=by
 unfold joinedFacts
 rw [zFl,zGJ,zFX,zGj]
 kernel_rfl
theorem updateOpens_row_holds:Rows.UpdateOpensSaid:=
 OpenClaim.holds_of_wide 6 Tryz.f6 O O O O O O O ⟨O,O,O,O,O⟩ O O O O O (by kernel_rfl) Tryz.func6 zCd
  (of_decide_eq_true (by kernel_rfl)) (by unfold Func.isWrapper; first | (rw [if_pos (by decide+kernel)]; kernel_rfl) | (rw [if_neg (by decide+kernel)]; exact ⟨O,O⟩))
  (fun os started H enc _=>zCc os started H enc)
end Go.Proofs.YtplchdlgdjcojaaGreatDoor
end
