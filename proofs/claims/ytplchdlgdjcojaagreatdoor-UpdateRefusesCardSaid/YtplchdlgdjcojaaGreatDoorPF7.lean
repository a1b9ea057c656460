/-
  Texts of this seat, put together: rules, walks, plain laws.
  Conditions: none.
-/
import Derived.Test.YtplchdlgdjcojaaGreatDoorPF6
section
namespace Go.Proofs.YtplchdlgdjcojaaGreatDoor
open Go
set_option linter.unusedVariables false
set_option linter.unusedSimpArgs false
def dlA (a:zC) (b:List Int) (k:Nat):zC:=⟨a.store,a.devices,a.needs,1,dl b k,a.before,a.order⟩
theorem zLp {a:zC} (hp:a.phase=0∨a.phase=1) {b:List Int} (h1:1≤b.length) (h2:b.length≤8192):yZ a (b.length:Int) 64=some (dlA a b 0,0):=by
 unfold yZ
 rw [show (a.phase==2||(a.phase==3||false))=false by rcases hp with h | h <;> rw [h] <;> rfl,cond_false,zRd h1 h2,bnd_some]
 rfl
theorem zPv {a:zC} (hp:a.phase=0∨a.phase=1):yZ a (([]:List Int).length:Int) 64=some (a,2):=by
 unfold yZ
 rw [show (a.phase==2||(a.phase==3||false))=false by rcases hp with h | h <;> rw [h] <;> rfl,cond_false]
 show bnd (vG ((0:Nat):Int) 64) _=_
 rw [zRo (n:=0) (.inl rfl),bnd_some]
 rfl
theorem zMI {a:zC} (hp:a.phase=2∨a.phase=3) (n p:Int):yZ a n p=some (a,46):=by
 unfold yZ
 rw [show (a.phase==2||(a.phase==3||false))=true by rcases hp with h | h <;> rw [h] <;> rfl,cond_true]
theorem zNz (a:zC) {b:List Int} {k:Nat} (h1:1≤b.length) (h2:b.length≤8192) (hk:k<xP b.length):xH (dlA a b k) (k:Int) (zAG b k)=some (dlA a b (k+1),0):=by
 unfold xH
 rw [show ((dlA a b k).phase != 1)=false from rfl,cond_false]
 show bnd (rJ (dl b k) _ _) _=_
 rw [zTE h1 h2 hk,bnd_some]
 rfl
theorem zNJ {a:zC} (hp:a.phase≠1) (k:Int) (b:List Int):xH a k b=some (a,46):=by
 unfold xH
 rw [xD (by simpa using hp)]
theorem zOo {b:List Int} {k:Nat} (h2:b.length≤8192) (hk:k<xP b.length):sub b (IntKind.wrap .i64 ((k:Int)*64)) (min (b.length:Int) (IntKind.wrap .i64 ((IntKind.wrap .i64 ((k:Int)+1))*64)))=some (zAG b k):=by
 have hc:64*k<b.length:=by unfold xP at hk; omega
 rw [show ((k:Int)*64)=((64*k:Nat):Int) by omega,yS (by omega),show ((k:Int)+1)=((k+1:Nat):Int) by omega,yS (by omega),show (((k+1:Nat):Int)*64)=((64*k+64:Nat):Int) by omega,yS (by omega)]
 rw [show min (b.length:Int) ((64*k+64:Nat):Int)=((min (64*k+64) b.length:Nat):Int) by omega]
 unfold sub
 rw [if_pos ⟨by omega,by omega,by omega⟩,Int.toNat_natCast,Int.toNat_natCast]
 rfl
theorem zSL {τ:Type} (a:zC) {b:List Int} (h1:1≤b.length) (h2:b.length≤8192) (bad:zC→Int→rN (zC × Int) τ) (good:zC→τ) (m:zC × Int→Option (rN (zC × Int) τ))
  (hm:∀ s1,m s1=bif decide ((IntKind.wrap .i64 (s1.2*64))<(b.length:Int)) then (bnd (sub b (IntKind.wrap .i64 (s1.2*64)) (min (b.length:Int) (IntKind.wrap .i64 ((IntKind.wrap .i64 (s1.2+1))*64)))) fun l1=>bnd (xH s1.1 s1.2 l1) fun r2=>bif (r2.2 != 0) then (some (bad r2.1 r2.2)) else (some (.next (r2.1,IntKind.wrap .i64 (s1.2+1))))) else (some (.done (good s1.1)))):
  yE m (dlA a b 0,0)=some (good (dlA a b (xP b.length))):=by
 have hc:xP b.length≤200:=by unfold xP; omega
 refine pO (fun i=>(dlA a b i,(i:Int))) (xP b.length) (fun i hi=>?_) ?_
 ·rw [hm]
  simp only
  have h64:64*i<b.length:=by unfold xP at hi; omega
  rw [zOo h2 hi,bnd_some,show ((i:Int)*64)=((64*i:Nat):Int) by omega,yS (by omega),decide_eq_true (by omega:((64*i:Nat):Int)<(b.length:Int)),cond_true,zNz a h1 h2 hi,bnd_some,zR hi (by omega)]
  rfl
 ·rw [hm]
  simp only
  have h64:b.length≤64*xP b.length:=by unfold xP; omega
  rw [show ((xP b.length:Int)*64)=((64*xP b.length:Nat):Int) by omega,yS (by omega),decide_eq_false (by omega:¬ ((64*xP b.length:Nat):Int)<(b.length:Int)),cond_false]
def nEq (x y:zX):Bool:=(x.Component.toList==y.Component.toList)&&(((x.From.Major==y.From.Major)&&((x.From.Minor==y.From.Minor)&&((x.From.Patch==y.From.Patch)&&true)))&&((x.On.toList==y.On.toList)&&(((x.At.Major==y.At.Major)&&((x.At.Minor==y.At.Minor)&&((x.At.Patch==y.At.Patch)&&true)))&&true)))
theorem zAX {l:List zX} (hl:l.length≤1000) (x:zX):wC l x=some (l.any (nEq x)):=by
 unfold wC vY
 cases hr:l.any (nEq x)
 ·refine yD (a:= -1) ?_ rfl
  refine xY (fun i=>(i:Int)) l.length (.inr ()) rfl (fun i hi=>?_) ?_ rfl
  ·have:=List.any_eq_false.1 hr _ (List.getElem_mem hi)
   rw [decide_eq_true (by omega:(i:Int)<(l.length:Int)),cond_true,yU hi,bnd_some]
   show (bif nEq x l[i] then _ else _)=_
   rw [yR (by simpa using this),zR hi (by omega)]
  ·rw [decide_eq_false (by omega:¬ (l.length:Int)<(l.length:Int))]; rfl
 ·
  have hex:∃ k,∃ h:k<l.length,nEq x l[k]=true∧∀ j,(hj:j<k)→nEq x (l[j]'(by omega))=false:=by
   have h1:∃ k,∃ h:k<l.length,nEq x l[k]=true:=by
    obtain ⟨y,hy,h2⟩:=List.any_eq_true.1 hr
    obtain ⟨k,hk,he⟩:=List.mem_iff_getElem.1 hy
    exact ⟨k,hk,by rw [he]; exact h2⟩
   obtain ⟨k,hk,h2⟩:=h1
   induction k using Nat.strongRecOn with
   | ind k ih=>
    by_cases hall:∀ j,(hj:j<k)→nEq x (l[j]'(by omega))=false
    ·exact ⟨k,hk,h2,hall⟩
    ·simp only [Classical.not_forall] at hall
     obtain ⟨j,hj,h3⟩:=hall
     exact ih j hj (by omega) (by simpa using h3)
  obtain ⟨k,hk,h2,h3⟩:=hex
  refine yD (a:=(k:Int)) ?_ (by rw [decide_eq_true (by omega:(k:Int)≥0)])
  refine yD (a:=.inl (k:Int)) ?_ rfl
  refine pO (fun i=>(i:Int)) k (fun i hi=>?_) ?_
  ·rw [decide_eq_true (by omega:(i:Int)<(l.length:Int)),cond_true,yU (by omega:i<l.length),bnd_some]
   show (bif nEq x l[i] then _ else _)=_
   rw [h3 i hi,cond_false,zR hi (by omega)]
  ·rw [decide_eq_true (by omega:(k:Int)<(l.length:Int)),cond_true,yU hk,bnd_some]
   show (bif nEq x l[k] then _ else _)=_
   rw [h2,cond_true]
def mE (l:List ByteArray):Prop:=l.Pairwise (· ≠·)
theorem fU {l:List ByteArray} (h:mE l) {i j:Nat} (hi:i<l.length) (hj:j<l.length) (he:l[i]=l[j]):i=j:=by
 have hp:=List.pairwise_iff_getElem.1 h
 rcases Nat.lt_trichotomy i j with hij | hij | hij
 ·exact absurd he (hp i j hi hj hij)
 ·exact hij
 ·exact absurd he.symm (hp j i hj hi hij)
theorem zEM {l:List ByteArray} (h:lM l=true):mE l:=List.pairwise_iff_getElem.2 fun i j hi hj hij=>zKv h hi hj (by omega)
theorem zSp {nx:List zM} (hl:nx.length≤1000) (hd:mE (nx.map (·.Name))) (x:zI):
  (∃ k,∃ h:k<nx.length,nx[k].Name=x.Name∧zT nx x=some (k:Int))∨
  ((∀ c∈nx,c.Name≠x.Name)∧zT nx x=some (-1)):=by
 have step:∀ i,(h:i<nx.length)→uM nx[i] x=some (decide (nx[i].Name=x.Name)):=fun i h=>by
  unfold uM
  rw [cA]
 by_cases hex:∃ k,∃ h:k<nx.length,nx[k].Name=x.Name
 ·obtain ⟨k,hk,he⟩:=hex
  refine .inl ⟨k,hk,he,?_⟩
  unfold zT
  refine yD (a:=.inl (k:Int)) ?_ rfl
  refine pO (fun i=>(i:Int)) k (fun i hi=>?_) ?_
  ·have hne:nx[i].Name≠x.Name:=fun hh=>by
    have:=fU hd (i:=i) (j:=k) (by rw [List.length_map]; omega) (by rw [List.length_map]; omega) (by rw [List.getElem_map,List.getElem_map,hh,he])
    omega
   rw [decide_eq_true (by omega:(i:Int)<(nx.length:Int)),cond_true,yU (by omega:i<nx.length),bnd_some,step,bnd_some,decide_eq_false hne,cond_false,zR hi (by omega)]
  ·rw [decide_eq_true (by omega:(k:Int)<(nx.length:Int)),cond_true,yU hk,bnd_some,step,bnd_some,decide_eq_true he,cond_true]
 ·have hno:∀ c∈nx,c.Name≠x.Name:=fun c hc he=>by
   obtain ⟨k,hk,h2⟩:=List.mem_iff_getElem.1 hc
   exact hex ⟨k,hk,by rw [h2]; exact he⟩
  refine .inr ⟨hno,?_⟩
  unfold zT
  refine xY (fun i=>(i:Int)) nx.length (.inr ()) rfl (fun i hi=>?_) ?_ rfl
  ·rw [decide_eq_true (by omega:(i:Int)<(nx.length:Int)),cond_true,yU hi,bnd_some,step,bnd_some,decide_eq_false (hno _ (List.getElem_mem hi)),cond_false,zR hi (by omega)]
  ·rw [decide_eq_false (by omega:¬ (nx.length:Int)<(nx.length:Int))]; rfl
def vOf (l:List zI) (n:ByteArray) (v:zJ):zJ:=match l.find? (fun x=>decide (x.Name=n)) with
 | some x=>x.Version
 | none=>v
def sO (now:List zM) (l:List zI):List zM:=now.map fun c=>⟨c.Name,vOf l c.Name c.Version⟩
def zRL (now:List zM) (n:ByteArray):Bool:=now.any fun c=>decide (c.Name=n)
@[simp] theorem nextL_len (now:List zM) (l:List zI):(sO now l).length=now.length:=by simp [sO]
theorem zLm {now:List zM} (l:List zI) {j:Nat} (hj:j<now.length):(sO now l)[j]'(by simpa using hj)=⟨now[j].Name,vOf l now[j].Name now[j].Version⟩:=by simp [sO]
theorem zKK (now:List zM) (l:List zI):(sO now l).map (·.Name)=now.map (·.Name):=by
 simp [sO,List.map_map,Function.comp_def]
theorem zPC (now:List zM):sO now []=now:=by
 unfold sO vOf
 simp
theorem zPM {now:List zM} (hd:mE (now.map (·.Name))) {l:List zI} {x:zI} (hx:∀ y∈l,y.Name≠x.Name) {k:Nat} (hk:k<now.length) (he:now[k].Name=x.Name):(sO now l).set k ⟨x.Name,x.Version⟩=sO now (l++ [x]):=by
 apply List.ext_getElem (by simp)
 intro j h1 h2
 have hj:j<now.length:=by simpa using h2
 rw [List.getElem_set,zLm l hj,zLm (l++ [x]) hj]
 by_cases hkj:k=j
 ·subst hkj
  rw [if_pos rfl,he]
  unfold vOf
  rw [List.find?_append,List.find?_eq_none.2 fun y hy=>by simpa using hx y hy]
  simp
 ·rw [if_neg hkj]
  have hne:x.Name≠now[j].Name:=fun hh=>hkj (fU hd (by rw [List.length_map]; omega) (by rw [List.length_map]; omega) (by rw [List.getElem_map,List.getElem_map,he,hh]))
  unfold vOf
  rw [List.find?_append]
  cases hf:l.find? (fun y=>decide (y.Name=now[j].Name)) with
  | none=>simp [hne]
  | some y=>simp
def kD (now:List zM) (N:List zX) (B:zV):xA × Int:=
 if (B.Images.all fun x=>zRL now x.Name)=true then (if (B.Needs.all fun x=>N.any (nEq x))=true then (⟨now,sO now B.Images,N⟩,0) else (⟨[], [], []⟩,42)) else (⟨[], [], []⟩,8)
theorem zSX {a:zC} (h8:a.devices.length≤8) (hd:mE ((wQ a.devices).map (·.Name))) (hN:a.needs.length≤16) {B:zV} (hB:B.Images.length≤8) (hBn:B.Needs.length≤16) (hi:mE (B.Images.map (·.Name))):
  tR a B=some (kD (wQ a.devices) a.needs B):=by
 unfold tR kD
 rw [zTl (by omega),bnd_some,bnd_some,zFO (by omega),bnd_some]
 generalize hnow:wQ a.devices=now at*
 have hnl:now.length≤8:=by rw [←hnow]; simp [wQ]; omega
 -- the images
 have himg:∀ (m:Int × List zM→Option (rN (Int × List zM) ((xA × Int) ⊕ List zM))),
   (∀ s1,m s1=bif decide (s1.1<(B.Images.length:Int)) then (bnd (elt B.Images s1.1) fun x1=>bnd (zT s1.2 x1) fun r4=>bif decide (r4<0) then (some (.done (.inl ((⟨[], [], []⟩:xA),8)))) else (bnd (elt s1.2 r4) fun x2=>bnd (rZ s1.2 r4 (⟨x2.Name,x1.Version⟩:zM)) fun l1=>some (.next (IntKind.wrap .i64 (s1.1+1),l1)))) else (some (.done (.inr s1.2))))→
   yE m (0,now)=some (if (B.Images.all fun x=>zRL now x.Name)=true then .inr (sO now B.Images) else .inl (⟨[], [], []⟩,8)):=by
  intro m hm
  have key:∀ (r i:Nat),i+r=B.Images.length→((B.Images.take i).all fun x=>zRL now x.Name)=true→yE m ((i:Int),sO now (B.Images.take i))=some (if (B.Images.all fun x=>zRL now x.Name)=true then .inr (sO now B.Images) else .inl (⟨[], [], []⟩,8)):=by
   intro r
   induction r with
   | zero=>
    intro i hir hall
    rw [List.take_of_length_le (by omega)] at hall ⊢
    rw [if_pos hall]
    refine xT ?_
    rw [hm]
    simp only
    rw [decide_eq_false (by omega:¬ (i:Int)<(B.Images.length:Int)),cond_false]
   | succ r ih=>
    intro i hir hall
    have hib:i<B.Images.length:=by omega
    have ht:B.Images.take (i+1)=B.Images.take i++ [B.Images[i]]:=xK hib
    rcases zSp (nx:=sO now (B.Images.take i)) (by simp; omega) (by rw [zKK]; exact hd) B.Images[i] with ⟨k,hk,h1,h2⟩ | ⟨h1,h2⟩
    ·have hkn:k<now.length:=by simpa using hk
     have h1':now[k].Name=B.Images[i].Name:=by
      rw [←h1]
      simp [sO]
     refine tJ (s':=(((i+1:Nat):Int),sO now (B.Images.take (i+1)))) ?_ (ih (i+1) (by omega) ?_)
     ·rw [hm]
      simp only
      rw [decide_eq_true (by omega:(i:Int)<(B.Images.length:Int)),cond_true,yU hib,bnd_some,h2,bnd_some,decide_eq_false (by omega:¬ (k:Int)<0),cond_false,yU hk,bnd_some,lO hk,bnd_some,zR hib (by omega),h1,zPM hd (fun y hy he=>?_) hkn h1',ht]
      obtain ⟨j,hj,hje⟩:=List.mem_iff_getElem.1 hy
      rw [List.length_take] at hj
      rw [List.getElem_take] at hje
      have:=fU hi (i:=j) (j:=i) (by rw [List.length_map]; omega) (by rw [List.length_map]; omega) (by rw [List.getElem_map,List.getElem_map,hje,he])
      omega
     ·rw [ht,List.all_append,hall,Bool.true_and]
      simp only [List.all_cons,List.all_nil,Bool.and_true]
      exact List.any_eq_true.2 ⟨now[k],List.getElem_mem hkn,decide_eq_true h1'⟩
    ·rw [if_neg]
     ·refine xT ?_
      rw [hm]
      simp only
      rw [decide_eq_true (by omega:(i:Int)<(B.Images.length:Int)),cond_true,yU hib,bnd_some,h2,bnd_some]
      rfl
     ·intro hh
      have:=List.all_eq_true.1 hh _ (List.getElem_mem hib)
      obtain ⟨c,hc,hce⟩:=List.any_eq_true.1 this
      obtain ⟨k,hk,he⟩:=List.mem_iff_getElem.1 hc
      refine h1 ((sO now (B.Images.take i))[k]'(by simpa using hk)) (List.getElem_mem _) ?_
      simp only [sO,List.getElem_map,he]
      exact of_decide_eq_true hce
  have:=key B.Images.length 0 (by omega) rfl
  rw [List.take_zero,zPC] at this
  exact this
 refine yD (himg _ (fun _=>rfl)) ?_
 by_cases hall:(B.Images.all fun x=>zRL now x.Name)=true
 ·rw [if_pos hall,if_pos hall,retOr_inr]
  by_cases hnd:(B.Needs.all fun x=>a.needs.any (nEq x))=true
  ·rw [if_pos hnd]
   refine xY (fun i=>(i:Int)) B.Needs.length (.inr ()) rfl (fun i hi=>?_) ?_ rfl
   ·rw [decide_eq_true (by omega:(i:Int)<(B.Needs.length:Int)),cond_true,yU hi,bnd_some,zAX (by omega),bnd_some,List.all_eq_true.1 hnd _ (List.getElem_mem hi),Bool.not_true,cond_false,zR hi (by omega)]
   ·rw [decide_eq_false (by omega:¬ (B.Needs.length:Int)<(B.Needs.length:Int))]; rfl
  ·rw [if_neg hnd]
   refine oZ (fun i=>(i:Int)) B.Needs.length (fun i=>match B.Needs[i]? with | some x=>!a.needs.any (nEq x) | none=>false) (.inl (⟨[], [], []⟩,42)) (.inr ()) rfl (fun i hi=>?_) ?_ ?_
   ·rw [decide_eq_true (by omega:(i:Int)<(B.Needs.length:Int)),cond_true,yU hi,bnd_some,zAX (by omega),bnd_some,List.getElem?_eq_getElem hi,zR hi (by omega)]
    show (bif !a.needs.any (nEq B.Needs[i]) then _ else _)=some (bif !a.needs.any (nEq B.Needs[i]) then _ else _)
    cases a.needs.any (nEq B.Needs[i]) <;> rfl
   ·rw [decide_eq_false (by omega:¬ (B.Needs.length:Int)<(B.Needs.length:Int))]; rfl
   ·have:((List.range B.Needs.length).any fun i=>match B.Needs[i]? with | some x=>!a.needs.any (nEq x) | none=>false)=true:=by
     refine List.any_eq_true.2 ?_
     have h2:∃ x∈B.Needs,¬ (a.needs.any (nEq x))=true:=by
      refine Classical.byContradiction fun hh=>hnd (List.all_eq_true.2 fun x hx=>Classical.byContradiction fun h3=>hh ⟨x,hx,h3⟩)
     obtain ⟨x,hx,h3⟩:=h2
     obtain ⟨i,hi,he⟩:=List.mem_iff_getElem.1 hx
     refine ⟨i,by simpa using hi,?_⟩
     rw [List.getElem?_eq_getElem hi,he]
     simpa using h3
    rw [this,cond_true]
    rfl
 ·rw [if_neg hall,if_neg hall]
  rfl
end Go.Proofs.YtplchdlgdjcojaaGreatDoor
end
section
namespace Go.Proofs.YtplchdlgdjcojaaGreatDoor
open Go
set_option linter.unusedVariables false
set_option linter.unusedSimpArgs false
def zDO (d:zB) (x:zI):zB:=⟨d.Name,kP d.Slots (1 - d.Running) ⟨x,kH x⟩,d.Active,d.Running,d.Trial⟩
theorem zHt (a:qS yF) (k:Int) (y z:yF):kP (kP a k y) k z=kP a k z:=by
 unfold kP
 split <;> rfl
theorem zLv {x:zI} {n:ByteArray} (h:wI x=true) (hn:x.Name=n):nP ⟨x,kH x⟩ n=true:=by
 unfold nP zCH
 simp [h,hn]
theorem zDL {x:zI} (h:wI x=true):small x:=by
 have:=(rT h).2.2.2
 unfold small; omega
theorem zPP {d:zB} (h:Rdy d) {x:zI} (hx:wI x=true) (hn:x.Name=d.Name):Two (zDO d x):=by
 have hi:=zJq (n:=d.Name) ⟨h.vd,rfl,h.sm⟩ h.run h.tr (y:=⟨x,kH x⟩) (zDL hx)
 refine ⟨⟨hi.vd,hi.sm,h.run,h.tr⟩,?_⟩
 show nP (qM (kP d.Slots (1 - d.Running) ⟨x,kH x⟩) (1 - d.Active)) d.Name=true
 rw [h.run,zFW]
 exact zLv hx hn
theorem zRe {a:zC} {k:Nat} {d:zB} (hd:a.devices[k]? =some d) (h:Rdy d) {x:zI} (hx:wI x=true) (hn:x.Name=d.Name):
  tD a (k:Int) x=some (⟨a.store,a.devices.set k (zDO d x),a.needs,a.phase,a.load,a.before,a.order⟩,0):=by
 have hk:=(List.getElem?_eq_some_iff.1 hd).1
 have hi0:Inv d d.Name:=⟨h.vd,rfl,h.sm⟩
 have hxs:=zDL hx
 have e1:zIq d=(⟨d.Name,kP d.Slots (1 - d.Running) kF,d.Active,d.Running,d.Trial⟩,0):=by
  unfold zIq
  rw [zNp h.vd h.run h.tr]
  rfl
 have hi1:Inv ⟨d.Name,kP d.Slots (1 - d.Running) kF,d.Active,d.Running,d.Trial⟩ d.Name:=zJq hi0 h.run h.tr zFl
 have e2:zIo ⟨d.Name,kP d.Slots (1 - d.Running) kF,d.Active,d.Running,d.Trial⟩ x (x.Data.length:Int)=(⟨d.Name,kP d.Slots (1 - d.Running) ⟨x,0⟩,d.Active,d.Running,d.Trial⟩,0):=by
  unfold zIo
  rw [zNp hi1.vd h.run h.tr]
  have hok:cS ⟨d.Name,kP d.Slots (1 - d.Running) kF,d.Active,d.Running,d.Trial⟩ x (x.Data.length:Int)=true:=by
   unfold cS
   simp [hx,hn]
  rw [hok]
  simp only [bne_self_eq_false,cond_false,cond_true,zHt,Int.toNat_natCast,List.take_length]
 have hi2:Inv ⟨d.Name,kP d.Slots (1 - d.Running) ⟨x,0⟩,d.Active,d.Running,d.Trial⟩ d.Name:=zJq hi0 h.run h.tr (y:=⟨x,0⟩) hxs
 have e3:zEd ⟨d.Name,kP d.Slots (1 - d.Running) ⟨x,0⟩,d.Active,d.Running,d.Trial⟩ (kH x)=(zDO d x,0):=by
  unfold zEd
  rw [zNp hi2.vd h.run h.tr]
  simp only [bne_self_eq_false,cond_false,zFW,zHt]
  rw [zLv hx hn,cond_true]
  rfl
 unfold tD
 rw [elt_nat,hd,bnd_some,zMy h.sm,bnd_some,e1]
 simp only [bne_self_eq_false,cond_false,bnd_some]
 rw [lO hk,bnd_some,zMT hi1.sm hxs,bnd_some,e2]
 simp only [bne_self_eq_false,cond_false]
 rw [zBz,bnd_some,zKh hi2.sm,bnd_some,e3]
 simp only [bne_self_eq_false,cond_false]
 rw [elt_nat,List.getElem?_set_self hk,bnd_some,lO (by simpa using hk),bnd_some,List.set_set]
def zId (l:List zI) (n:ByteArray):Option zI:=l.find? fun x=>decide (x.Name=n)
theorem zTD (l:List zI) (n:ByteArray) (v:zJ):vOf l n v=match zId l n with | some x=>x.Version | none=>v:=rfl
theorem zJP {l:List zI} (hd:mE (l.map (·.Name))) {n:ByteArray} {x:zI} (h:zId l n=some x):∃ k,∃ hk:k<l.length,l[k]=x∧x.Name=n∧zJG l n=(k:Int):=by
 unfold zId at h
 have hn:x.Name=n:=by simpa using List.find?_some h
 obtain ⟨k,hk,he⟩:=List.mem_iff_getElem.1 (List.mem_of_find?_eq_some h)
 refine ⟨k,hk,he,hn,?_⟩
 unfold zJG
 rw [zJS (i:=k) (v:=(k:Int)) hk (by rw [List.getElem?_eq_getElem hk,he,Option.map_some,hn,if_pos rfl]) (fun j hj=>?_)]
 rw [List.getElem?_eq_getElem (by omega),Option.map_some,if_neg]
 intro hh
 injection hh with hh
 have:=fU hd (i:=j) (j:=k) (by rw [List.length_map]; omega) (by rw [List.length_map]; omega) (by rw [List.getElem_map,List.getElem_map,hh,he,hn])
 omega
def zKc (l:List zI) (d:zB):zB:=match zId l d.Name with | some x=>zDO d x | none=>d
def wrL (L:List zB) (l:List zI) (S:List Nat) (j:Nat):List zB:=L.mapIdx fun i d=>if i∈S.take j then zKc l d else d
@[simp] theorem wrL_len (L:List zB) (l:List zI) (S:List Nat) (j:Nat):(wrL L l S j).length=L.length:=by simp [wrL]
theorem zBP (L:List zB) (l:List zI) (S:List Nat) (j i:Nat):(wrL L l S j)[i]? =L[i]?.map fun d=>if i∈S.take j then zKc l d else d:=by simp [wrL,List.getElem?_mapIdx]
theorem zRH (L:List zB) (l:List zI) (S:List Nat):wrL L l S 0=L:=by
 apply List.ext_getElem?
 intro i
 rw [zBP]
 simp
theorem zQI {L:List zB} {l:List zI} {S:List Nat} (h:S.Nodup) {c:Nat} (hc:c<S.length) {d:zB} (hd:L[S[c]]? =some d):(wrL L l S c).set S[c] (zKc l d)=wrL L l S (c+1):=by
 apply List.ext_getElem?
 intro i
 rw [List.getElem?_set,zBP,zBP,wrL_len]
 have hlt:S[c]<L.length:=(List.getElem?_eq_some_iff.1 hd).1
 have ht:S.take (c+1)=S.take c++ [S[c]]:=xK hc
 by_cases hi:S[c]=i
 ·subst hi
  rw [if_pos rfl,if_pos hlt,hd,Option.map_some,if_pos ((nA h hc _).2 (by omega))]
 ·rw [if_neg hi]
  have:(i∈S.take (c+1))↔i∈S.take c:=by
   rw [ht,List.mem_append,List.mem_singleton]
   constructor
   ·rintro (h | h)
    ·exact h
    ·exact absurd h.symm hi
   ·exact .inl
  simp only [this]
def fK (a:zC) (L:List zB):zC:=⟨a.store,L,a.needs,a.phase,a.load,a.before,a.order⟩
theorem zOT {a:zC} {B:zV} (hB:B.Images.length≤8) (hd:mE (B.Images.map (·.Name))) (hr:∀ x∈B.Images,wI x=true) {S:List Nat} (hS:S.Nodup) (hl:S.length≤1000)
  (hk:∀ k∈S,∃ d x,a.devices[k]? =some d∧Rdy d∧zId B.Images d.Name=some x) (bad:zC→Int→(zC × zD × zA × Int))
  (m:zC × Int→Option (rN (zC × Int) ((zC × zD × zA × Int) ⊕ zC)))
  (hm:∀ s1,m s1=bif decide (s1.2<((iz S).length:Int)) then (bnd (elt (iz S) s1.2) fun x1=>bnd (elt s1.1.devices x1) fun x2=>bnd (nV B x2.Name) fun r7=>bnd (elt B.Images r7) fun x3=>bnd (tD s1.1 x1 x3) fun r8=>bif (r8.2 != 0) then (some (.done (.inl (bad r8.1 r8.2)))) else (some (.next (r8.1,IntKind.wrap .i64 (s1.2+1))))) else (some (.done (.inr s1.1)))):
  yE m (a,0)=some (.inr (fK a (wrL a.devices B.Images S S.length))):=by
 have h0:a=fK a (wrL a.devices B.Images S 0):=by rw [zRH]; rfl
 have:=pO (m:=m) (t:=.inr (fK a (wrL a.devices B.Images S S.length))) (fun i=>(fK a (wrL a.devices B.Images S i),(i:Int))) S.length (fun i hi=>?_) ?_
 ·rw [←h0] at this; exact this
 ·rw [hm]
  simp only
  obtain ⟨d,x,h1,h2,h3⟩:=hk _ (List.getElem_mem hi)
  obtain ⟨k,hkl,h4,h5,h6⟩:=zJP hd h3
  have hdev:(fK a (wrL a.devices B.Images S i)).devices[S[i]]? =some d:=by
   show (wrL a.devices B.Images S i)[S[i]]? =_
   rw [zBP,h1,Option.map_some,if_neg (fun hh=>absurd ((nA hS hi i).1 hh) (by omega))]
  rw [iz_len,decide_eq_true (by omega:(i:Int)<(S.length:Int)),cond_true,zDc hi,bnd_some,elt_nat,hdev,bnd_some,zPG B d.Name (by omega),bnd_some,h6,yU hkl,bnd_some,h4,zRe hdev h2 (hr x (by rw [←h4]; exact List.getElem_mem hkl)) h5,bnd_some,zR hi (by omega)]
  have hset:(wrL a.devices B.Images S i).set S[i] (zDO d x)=wrL a.devices B.Images S (i+1):=by
   rw [←zQI hS hi h1]
   unfold zKc
   rw [h3]
  show some (rN.next (fK a ((wrL a.devices B.Images S i).set S[i] (zDO d x)),((i+1:Nat):Int)))=_
  rw [hset]
 ·rw [hm]
  simp only
  rw [iz_len,decide_eq_false (by omega:¬ (S.length:Int)<(S.length:Int)),cond_false]
def aJ (L:List zB) (n:Nat):Nat:=zBS n fun i=>match L[i]? with | some d=>d.Active==1 | none=>false
theorem zTW {L:List zB} (h8:L.length≤8) (hb:∀ d∈L,bit d.Active) (m:Int × Int→Option (rN (Int × Int) Int))
  (hm:∀ s2,m s2=bif decide (s2.1<(L.length:Int)) then (bnd (elt L s2.1) fun x4=>bnd (zCl .u8 (IntKind.wrap .u8 x4.Active) s2.1) fun q1=>some (.next (IntKind.wrap .i64 (s2.1+1),iOr .u8 s2.2 q1))) else (some (.done s2.2))):
  yE m (0,0)=some ((aJ L L.length:Nat):Int):=by
 refine pO (m:=m) (fun i=>((i:Int),((aJ L i:Nat):Int))) L.length (fun i hi=>?_) ?_
 ·rw [hm]
  simp only
  rw [decide_eq_true (by omega:(i:Int)<(L.length:Int)),cond_true,yU hi,bnd_some]
  have hp:2 ^ i≤128:=by
   have:2 ^ i≤2 ^ 7:=Nat.pow_le_pow_right (by omega) (by omega)
   omega
  have hma:aJ L i<256:=zAu (by omega)
  have hsucc:aJ L (i+1)=if L[i].Active=1 then aJ L i|||2 ^ i else aJ L i:=by
   unfold aJ
   rw [zAr,List.getElem?_eq_getElem hi]
   simp
  rcases hb _ (List.getElem_mem hi) with h0 | h0
  ·rw [h0,show IntKind.wrap .u8 0=((0:Nat):Int) from by decide,zNs (by omega) (by omega),bnd_some,Nat.zero_mul,zCQ hma (by decide),zR hi (by omega),hsucc,h0]
   simp
  ·rw [h0,show IntKind.wrap .u8 1=((1:Nat):Int) from by decide,zNs (by omega) (by omega),bnd_some,Nat.one_mul,zCQ hma (by omega),zR hi (by omega),hsucc,h0]
   simp
 ·rw [hm]
  simp only
  rw [decide_eq_false (by omega:¬ (L.length:Int)<(L.length:Int)),cond_false]
theorem zFS {F:Nat} {G:Nat→Bool}:∀ {l:List Nat} {S:Nat},zAm F G S l→l.Nodup∧∀ i∈l,S.testBit i=false
 | [],_,_=>⟨List.nodup_nil,fun i hi=>by cases hi⟩
 | j::l,S,h=>by
  obtain ⟨h1,h2⟩:=h
  obtain ⟨p1,p2,p3⟩:=jA h1
  obtain ⟨q1,q2⟩:=zFS h2
  refine ⟨List.nodup_cons.2 ⟨fun hj=>?_,q1⟩,fun i hi=>?_⟩
  ·have:=q2 j hj
   rw [zIS] at this
   simp at this
  ·rcases List.mem_cons.1 hi with rfl | hi
   ·exact p2
   ·have:=q2 i hi
    rw [zIS] at this
    exact (Bool.or_eq_false_iff.1 this).1
end Go.Proofs.YtplchdlgdjcojaaGreatDoor
end
section
namespace Go.Proofs.YtplchdlgdjcojaaGreatDoor
open Go
set_option linter.unusedVariables false
set_option linter.unusedSimpArgs false
theorem zKl {b:zV} (h:wP b=0) {i:Nat} (hi:i+1<b.Images.length):Op.bytesLess b.Images[i].Name.toList b.Images[i+1].Name.toList=true:=by
 have h0:=eN h
 unfold wP at h
 split at h
 ·cases h
 ·split at h
  ·rename_i e he
   exfalso
   obtain ⟨i,_,hi⟩:=List.exists_of_findSome?_eq_some he
   unfold lS at hi
   subst h
   split at hi
   ·cases hi
   ·split at hi
    ·cases hi
    ·split at hi
     ·cases hi
     ·cases hi
  ·rename_i he
   have:=List.findSome?_eq_none_iff.1 he (i+1) (List.mem_range.2 hi)
   unfold lS at this
   rw [List.getElem?_eq_getElem hi] at this
   simp only [Nat.add_sub_cancel] at this
   rw [List.getElem?_eq_getElem (by omega)] at this
   rw [if_neg (by rw [h0.2.2.1 _ (List.getElem_mem hi)]; simp)] at this
   simp only [Option.map_some,Option.getD_some] at this
   cases hb:Op.bytesLess b.Images[i].Name.toList b.Images[i+1].Name.toList
   ·simp [hb] at this
   ·rfl
theorem eJ {b:zV} (h:wP b=0):mE (b.Images.map (·.Name)):=by
 have hlt:∀ (j:Nat) (hj:j<b.Images.length) (i:Nat) (hi:i<j),Op.bytesLess (b.Images[i]'(Nat.lt_trans hi hj)).Name.toList b.Images[j].Name.toList=true:=by
  intro j
  induction j with
  | zero=>intro _ i hi; omega
  | succ j ih=>
   intro hj i hi
   by_cases he:i=j
   ·subst he; exact zKl h hj
   ·exact zCT _ _ _ (ih (by omega) i (by omega)) (zKl h hj)
 refine List.pairwise_iff_getElem.2 fun i j hi hj hij he=>?_
 rw [List.getElem_map,List.getElem_map] at he
 have:=hlt j (by simpa using hj) i hij
 rw [he,cV] at this
 cases this
theorem zNK {b:List Nat} (h:(pD b).2=0):wP (pD b).1=0:=by
 unfold pD at h ⊢
 split
 ·rename_i h1; rw [if_pos h1] at h; cases h
 ·rename_i h1
  rw [if_neg h1] at h
  split
  ·rename_i h2; rw [if_pos h2] at h; cases h
  ·rename_i h2
   rw [if_neg h2] at h
   split
   ·rename_i h3; rw [if_pos h3] at h; cases h
   ·rename_i h3
    rw [if_neg h3] at h
    generalize b.take (b.length - 4)=q at*
    unfold zKN at h ⊢
    split
    ·rename_i h4; rw [if_pos h4] at h; cases h
    ·rename_i h4
     rw [if_neg h4] at h
     cases hp:zCM q with
     | none=>rw [hp] at h; cases h
     | some x=>
      rw [hp] at h
      obtain ⟨imgs,needs,rest⟩:=x
      simp only at h ⊢
      split
      ·rename_i h5; rw [if_pos h5] at h; cases h
      ·rename_i h5
       rw [if_neg h5] at h
       split
       ·rename_i h6; rw [if_pos h6] at h; cases h
       ·rename_i h6
        rw [if_neg h6] at h
        split
        ·rename_i h7; rw [if_pos h7] at h; exact absurd h h7
        ·rename_i h7; exact Classical.byContradiction fun hh=>h7 hh
theorem zMV (L:List zB):(wQ L).map (·.Name)=L.map (·.Name):=by simp [wQ,List.map_map,Function.comp_def]
theorem zSa {L:List zB} {l:List zI} {N:List zX} {i:Nat} (h:cX ⟨wQ L,sO (wQ L) l,N⟩ i=true):∃ d x,L[i]? =some d∧zId l d.Name=some x:=by
 unfold cX at h
 simp only at h
 by_cases hi:i<L.length
 ·have h1:(wQ L)[i]? =some ⟨L[i].Name,gT L[i]⟩:=by rw [wQ,List.getElem?_map,List.getElem?_eq_getElem hi]; rfl
  have h2:(sO (wQ L) l)[i]? =some ⟨L[i].Name,vOf l L[i].Name (gT L[i])⟩:=by rw [sO,List.getElem?_map,h1]; rfl
  rw [h1,h2] at h
  simp only [zTD] at h
  cases hx:zId l L[i].Name with
  | none=>rw [hx] at h; simp at h
  | some x=>exact ⟨L[i],x,List.getElem?_eq_getElem hi,hx⟩
 ·rw [List.getElem?_eq_none (by simp [wQ]; omega)] at h
  cases h
def pK (a:zC) (B:zV):xA:=⟨wQ a.devices,sO (wQ a.devices) B.Images,a.needs⟩
theorem zLw {now:List zM} {N:List zX} {B:zV} (h:(kD now N B).2=0):kD now N B=(⟨now,sO now B.Images,N⟩,0):=by
 unfold kD at h ⊢
 split
 ·rename_i h1
  rw [if_pos h1] at h
  split
  ·rfl
  ·rename_i h2; rw [if_neg h2] at h; cases h
 ·rename_i h1; rw [if_neg h1] at h; cases h
theorem zPa (now:List zM) (N:List zX) (B:zV):(kD now N B).2=0∨(kD now N B).2=8∨(kD now N B).2=42:=by
 unfold kD
 split
 ·split
  ·exact .inl rfl
  ·exact .inr (.inr rfl)
 ·exact .inr (.inl rfl)
def mL (a:zC) (B:zV):List zB:=wrL a.devices B.Images (xV (wQ a.devices).length (yT (pK a B))) (xV (wQ a.devices).length (yT (pK a B))).length
theorem zJz (n F:Nat):(xV n F).Nodup:=List.Pairwise.filter _ List.nodup_range
theorem zHC {n F k:Nat}:k∈xV n F↔k<n∧F.testBit k=true:=by
 unfold xV
 rw [List.mem_filter,List.mem_range]
theorem zIy (a:zC) (B:zV) (i:Nat):(mL a B)[i]? =a.devices[i]?.map fun d=>if (yT (pK a B)).testBit i=true then zKc B.Images d else d:=by
 unfold mL
 rw [zBP,List.take_length]
 cases h:a.devices[i]? with
 | none=>rfl
 | some d=>
  have hi:=(List.getElem?_eq_some_iff.1 h).1
  have:(i∈xV (wQ a.devices).length (yT (pK a B)))↔(yT (pK a B)).testBit i=true:=by
   rw [zHC]
   simp [wQ,hi]
  simp only [Option.map_some,this]
@[simp] theorem com_len (a:zC) (B:zV):(mL a B).length=a.devices.length:=by simp [mL]
theorem zIs {a:zC} (hd:DL a.devices) {B:zV} (hv:wP B=0) {i:Nat} (hi:(yT (pK a B)).testBit i=true):∃ d x,a.devices[i]? =some d∧zId B.Images d.Name=some x∧x∈B.Images∧x.Name=d.Name∧(mL a B)[i]? =some (zDO d x)∧Two (zDO d x):=by
 rw [zKe] at hi
 obtain ⟨h1,h2⟩:=Bool.and_eq_true_iff.1 hi
 obtain ⟨d,x,h3,h4⟩:=zSa h2
 obtain ⟨k,hk,h5,h6,_⟩:=zJP (eJ hv) h4
 have hx:x∈B.Images:=by rw [←h5]; exact List.getElem_mem hk
 refine ⟨d,x,h3,h4,hx,h6,?_,zPP (hd.rdy _ (List.mem_of_getElem? h3)) ((eN hv).2.2.1 x hx) h6⟩
 rw [zIy,h3,Option.map_some,zKe,hi,if_pos rfl]
 unfold zKc
 rw [h4]
theorem zEk {a:zC} (hd:DL a.devices) {B:zV} (hv:wP B=0):∀ d∈mL a B,Rdy d:=by
 intro d hm
 obtain ⟨i,hi,he⟩:=List.mem_iff_getElem.1 hm
 have h1:(mL a B)[i]? =some d:=by rw [List.getElem?_eq_getElem hi,he]
 by_cases hb:(yT (pK a B)).testBit i=true
 ·obtain ⟨_,_,_,_,_,_,h2,h3⟩:=zIs hd hv hb
  rw [h1] at h2
  injection h2 with h2
  rw [h2]
  exact h3.1
 ·rw [zIy] at h1
  obtain ⟨d0,h4,h5⟩:=Option.map_eq_some_iff.1 h1
  rw [if_neg hb] at h5
  rw [←h5]
  exact hd.rdy _ (List.mem_of_getElem? h4)
theorem zIv {a:zC} (hd:DL a.devices) {B:zV} (hv:wP B=0) (hp:sK (pK a B)=0) {O:List Nat} (hO:eT (pK a B)=some O):dP (mL a B) O (aJ (mL a B) (mL a B).length):=by
 have hpath:=zMP hO
 have h8:=hd.le
 refine ⟨(zFS hpath).1,by rw [com_len]; exact h8,fun i hi=>?_,fun i d h=>?_,zAu (by rw [com_len]; exact h8),zEk hd hv,zMC hp hpath⟩
 ·obtain ⟨d,x,_,_,_,_,h1,h2⟩:=zIs hd hv (zGP hpath i hi)
  exact ⟨_,h1,h2⟩
 ·have hi:=(List.getElem?_eq_some_iff.1 h).1
  have hbit:=(zEk hd hv d (List.mem_of_getElem? h)).vd.ba
  unfold aJ
  rw [zJO,h,decide_eq_true hi,Bool.true_and]
  rcases hbit with h0 | h0 <;> simp [h0]
theorem dY {a:zC} (hd:DL a.devices) (hst:a.store=true) (hN:qZ a.needs=true) {bb:List Nat} (hb:xQ bb) (h1:1≤bb.length) (h2:bb.length≤8192) (s:zD) (d:zA):
  (∃ e,e≠0∧yL (dlA a (iz bb) (xP bb.length)) s d=some (dlA a (iz bb) (xP bb.length),s,d,e)∧
   ((pD bb).2=e∨(pD bb).2=0∧((kD (wQ a.devices) a.needs (pD bb).1).2=e∧(e=8∨e=42)∨(kD (wQ a.devices) a.needs (pD bb).1).2=0∧uT (pK a (pD bb).1)=some ([],e))))∨
  ((pD bb).2=0∧(kD (wQ a.devices) a.needs (pD bb).1).2=0∧sK (pK a (pD bb).1)=0∧eT (pK a (pD bb).1)=some []∧
   yL (dlA a (iz bb) (xP bb.length)) s d=some (⟨a.store,a.devices,a.needs,0,zTR,a.before,a.order⟩,s,d,0))∨
  ((pD bb).2=0∧(kD (wQ a.devices) a.needs (pD bb).1).2=0∧sK (pK a (pD bb).1)=0∧∃ O,eT (pK a (pD bb).1)=some O∧O≠ []∧
   yL (dlA a (iz bb) (xP bb.length)) s d=bnd (yC s [⟨32,2::(aJ (mL a (pD bb).1) (mL a (pD bb).1).length:Int)::iz O,false⟩] d) fun r=>
    if r.2.2=0 then some (agC (mL a (pD bb).1) a.needs O (aJ (mL a (pD bb).1) (mL a (pD bb).1).length) 0 2,r.1,r.2.1,0)
    else some (⟨true,mL a (pD bb).1,a.needs,1,dl (iz bb) (xP bb.length),(aJ (mL a (pD bb).1) (mL a (pD bb).1).length:Int),iz O⟩,r.1,r.2.1,r.2.2)):=by
 have hbl:(iz bb).length=bb.length:=iz_len bb
 have hlc:wO (dl (iz bb) (xP bb.length))=some true:=by
  rw [←hbl,zHy (by omega) (by omega) (Nat.le_refl _),decide_eq_true rfl]
 have hby:sF (dl (iz bb) (xP bb.length))=some (iz bb,0):=by
  have:=zUT (b:=iz bb) (by omega) (by omega)
  rw [hbl] at this
  exact this
 have hd8:=hd.le
 have hNl:a.needs.length≤16:=of_decide_eq_true (Bool.and_eq_true_iff.1 hN).1
 have pre:∀ (X:Option (zC × zD × zA × Int)),True:=fun _=>trivial
 unfold yL
 have hc1:(bnd ((bif ((dlA a (iz bb) (xP bb.length)).phase != 1) then (some true) else (bnd (wO (dlA a (iz bb) (xP bb.length)).load) fun r1=>some (!r1)):Option Bool)) fun o1=>some o1)=some false:=by
  show (bnd (bnd (wO (dl (iz bb) (xP bb.length))) fun r1=>some (!r1)) fun o1=>some o1)=_
  rw [hlc]
  rfl
 rw [zTg] at hc1
 rw [hc1,bnd_some,cond_false]
 show (∃ e,e≠0∧(bnd (sF (dl (iz bb) (xP bb.length))) _)=_∧_)∨_
 rw [show (dlA a (iz bb) (xP bb.length)).load=dl (iz bb) (xP bb.length) from rfl,hby]
 simp only [bnd_some,bne_self_eq_false,cond_false]
 rw [zDG hb (by omega)]
 simp only [bnd_some]
 by_cases he:(pD bb).2=0
 case neg=>
  refine .inl ⟨(pD bb).2,he,?_, .inl rfl⟩
  rw [xD (by simpa using he)]
 have hv:=zNK he
 rw [yR (by simpa using he)]
 generalize hB:(pD bb).1=B at*
 obtain ⟨v1,v2,v3,v4,v5⟩:=eN hv
 have hpl:tR (dlA a (iz bb) (xP bb.length)) B=some (kD (wQ a.devices) a.needs B):=zSX (a:=dlA a (iz bb) (xP bb.length)) hd8 (by show mE ((wQ a.devices).map (·.Name)); rw [zMV]; exact zEM hd.names) hNl v2 v4 (eJ hv)
 rw [hpl,bnd_some]
 by_cases hp:(kD (wQ a.devices) a.needs B).2=0
 case neg=>
  refine .inl ⟨(kD (wQ a.devices) a.needs B).2,hp,?_, .inr ⟨he, .inl ⟨rfl,?_⟩⟩⟩
  ·rw [xD (by simpa using hp)]
  ·rcases zPa (wQ a.devices) a.needs B with h | h | h
   ·exact absurd h hp
   ·exact .inl h
   ·exact .inr h
 rw [yR (by simpa using hp),zLw hp]
 show (∃ e,e≠0∧(bnd (uT (pK a B)) _)=_∧_)∨_
 rw [show (⟨wQ a.devices,sO (wQ a.devices) B.Images,a.needs⟩:xA)=pK a B from rfl]
 rw [zKb]
 by_cases hvn:sK (pK a B)=0
 case neg=>
  rw [if_neg hvn]
  have hne:((sK (pK a B):Nat):Int)≠0:=by omega
  refine .inl ⟨(sK (pK a B):Int),hne,?_, .inr ⟨he, .inr ⟨rfl,rfl⟩⟩⟩
  rw [bnd_some,xD (by simpa using hne)]
 rw [if_pos hvn]
 cases hO:eT (pK a B) with
 | none=>
  refine .inl ⟨41,by decide,?_, .inr ⟨he, .inr ⟨rfl,rfl⟩⟩⟩
  rw [bnd_some]
  rfl
 | some O=>
  simp only [bnd_some,bne_self_eq_false,cond_false]
  by_cases hO0:O= []
  ·subst hO0
   refine .inr (.inl ⟨he,trivial,hvn,rfl,?_⟩)
   rfl
  refine .inr (.inr ⟨he,trivial,hvn,O,rfl,hO0,?_⟩)
  have hOl:0<O.length:=List.length_pos_iff.2 hO0
  rw [yR (by simp; omega),zPY,if_pos hvn,bnd_some]
  have hord:=zIv hd hv hvn hO
  have hpn:(pK a B).Now.length=(wQ a.devices).length:=rfl
  have hsl:(xV (wQ a.devices).length (yT (pK a B))).length≤8:=Nat.le_trans (List.length_filter_le _ _) (by simp [wQ]; exact hd8)
  rw [hpn]
  refine yD (zOT (a:=dlA a (iz bb) (xP bb.length)) (B:=B) v2 (eJ hv) v3 (zJz _ _) (by omega) (fun k hk=>?_) (fun a' e=>(a',s,d,e)) _ (fun _=>rfl)) ?_
  ·obtain ⟨dd,x,q1,q2,_⟩:=zIs hd hv (zHC.1 hk).2
   exact ⟨dd,x,q1,hd.rdy _ (List.mem_of_getElem? q1),q2⟩
  rw [retOr_inr]
  have hcl:fK (dlA a (iz bb) (xP bb.length)) (wrL (dlA a (iz bb) (xP bb.length)).devices B.Images (xV (wQ a.devices).length (yT (pK a B))) (xV (wQ a.devices).length (yT (pK a B))).length)=fK (dlA a (iz bb) (xP bb.length)) (mL a B):=rfl
  rw [hcl]
  refine yD (zTW (L:=mL a B) (by rw [com_len]; exact hd8) (fun dd hdd=>(zEk hd hv dd hdd).vd.ba) _ (fun _=>rfl)) ?_
  rw [show (2:Int)=((2:Nat):Int) from rfl,zMY (O:=O) rfl hord.len (fun i hi=>by have:=hord.lt hi; rw [com_len] at this; omega) (by decide),bnd_some]
  show bnd (dS a.store) _=_
  rw [hst,show dS true=some true from rfl,bnd_some,zVR]
  show bnd (yC s [⟨32,2::(aJ (mL a B) (mL a B).length:Int)::iz O,false⟩] d) _=_
  cases yC s [⟨32,2::(aJ (mL a B) (mL a B).length:Int)::iz O,false⟩] d with
  | none=>rfl
  | some r=>
   simp only [bnd_some]
   by_cases h1:r.2.2=0
   ·rw [if_pos h1,yR (by simpa using h1)]
    unfold agC
    rw [zKs,←hst]
    rfl
   ·rw [if_neg h1,xD (by simpa using h1),←hst]
    rfl
end Go.Proofs.YtplchdlgdjcojaaGreatDoor
end
section
namespace Go.Proofs.YtplchdlgdjcojaaGreatDoor
open Go
set_option linter.unusedVariables false
set_option linter.unusedSimpArgs false
def jK:Option (List Int)→List zF
 | none=> []
 | some x=> [⟨32,x,false⟩]
structure StU (d:zA) (s:zD) (v:Option (List Int)) (g:Nat):Prop where
 sto:Sto d s 0
 left:d.left=0
 K:(openF d 0).K=jK v
 gen:(openF d 0).gen≤g
theorem zSF (v:Option (List Int)) (x:List Int):vD (jK v) [⟨32,x,false⟩]=jK (some x):=by
 cases v <;> rfl
theorem zPU (v:Option (List Int)):vD (jK v) [⟨32, [],true⟩]=jK none:=by
 cases v <;> rfl
theorem zXp {d:zA} {s:zD} {v:Option (List Int)} {g:Nat} (h:StU d s v g) (hg:g<2147483648) {x:List Int} (hx:rng x) (h28:x.length≤28):∃ s' d',yC s [⟨32,x,false⟩] d=some (s',d',0)∧StU d' s' (some x) (g+1):=by
 have hp:okP [⟨32,x,false⟩]:=⟨fun z hz=>by
  rw [List.mem_singleton] at hz
  subst hz
  exact ⟨⟨(by decide:(0:Int)≤32),(by decide:(32:Int)≤255)⟩,hx,h28,fun h=>by cases h⟩,List.pairwise_singleton _ _⟩
 have hk:vD (openF d 0).K [⟨32,x,false⟩]=jK (some x):=by rw [h.K,zSF]
 have hg':=h.gen
 obtain ⟨r,h1,h2,h3,h4,h5,_,h6⟩:=h.sto.sure h.left hp (by simp) (by rw [hk]; simp [jK]) (by omega) (fun _=>by rw [hk]; exact Nat.le_refl 1)
 rw [hk] at h4
 obtain ⟨s',d',e⟩:=r
 simp only at h2
 subst h2
 exact ⟨s',d',h1,h3,h6,h4,by simp only at h5; omega⟩
theorem zXy {d:zA} {s:zD} {v:Option (List Int)} {g:Nat} (h:StU d s v g) (hg:g<2147483648):∃ s' d',yC s [⟨32, [],true⟩] d=some (s',d',0)∧StU d' s' none (g+1):=by
 have hp:okP [⟨32, [],true⟩]:=⟨fun z hz=>by
  rw [List.mem_singleton] at hz
  subst hz
  exact ⟨⟨(by decide:(0:Int)≤32),(by decide:(32:Int)≤255)⟩,(fun x (hx:x∈ [])=>(List.not_mem_nil hx).elim),Nat.zero_le _,fun _=>rfl⟩,List.pairwise_singleton _ _⟩
 have hk:vD (openF d 0).K [⟨32, [],true⟩]=jK none:=by rw [h.K,zPU]
 have hg':=h.gen
 obtain ⟨r,h1,h2,h3,h4,h5,_,h6⟩:=h.sto.sure h.left hp (by simp) (by rw [hk]; simp [jK]) (by omega) (fun _=>by rw [hk]; decide)
 rw [hk] at h4
 obtain ⟨s',d',e⟩:=r
 simp only at h2
 subst h2
 exact ⟨s',d',h1,h3,h6,h4,by simp only at h5; omega⟩
theorem zNv:mR 2 1024=some (some (zAL 2 1024),0)∧∃ s,wM (zAL 2 1024) 0=some (zAL 2 1024,some s,0)∧StU (zAL 2 1024) s none 0:=by
 have hok:=zTs (n:=2) (m:=1024) (by omega) (by omega)
 obtain ⟨s,o1,o2⟩:=zKL (f:=0) hok rfl (by show (1024:Int)≤1024; omega) (by show 0+1<(List.replicate 2 (0:Int)).length; simp)
 have h0:(openF (zAL 2 1024) 0).K= []:=by rw [zHX (by omega) (by omega)]; rfl
 have g0:(openF (zAL 2 1024) 0).gen=0:=by rw [zHX (by omega) (by omega)]; rfl
 exact ⟨zUW (n:=2) (m:=1024) (by omega) (by omega),s,o1,o2,rfl,h0,by omega⟩
theorem zQp {m:Nat} (hm:m<256) {O:List Nat} (hO:∀ i∈O,i<8) {ph:Int} (hp:0≤ph∧ph≤255):rng (ph::(m:Int)::iz O):=by
 intro x hx
 rcases List.mem_cons.1 hx with h | h
 ·subst h; exact hp
 rcases List.mem_cons.1 h with h | h
 ·subst h; omega
 ·obtain ⟨i,hi,rfl⟩:=List.mem_map.1 h
  have:=hO i hi
  show 0≤(i:Int)∧(i:Int)≤255
  omega
theorem zUJ {L:List zB} {N:List zX} {O:List Nat} {m c:Nat} {ph:Int} {s:zD} {d:zA} {v:Option (List Int)} {g:Nat} (h:StU d s v g) (hg:g<2147483648):
  ∃ s' d',zLZ L N O m c ph s d=some (agE L N O m c,s',d',0)∧StU d' s' none (g+1):=by
 obtain ⟨s',d',h1,h2⟩:=zXy h hg
 refine ⟨s',d',?_,h2⟩
 unfold zLZ
 rw [h1,bnd_some]
 rfl
def zRE (ph:Int) (m:Nat) (O:List Nat):List Int:=ph::(m:Int)::iz O
theorem dP.rngJ {L:List zB} {O:List Nat} {m:Nat} (h:dP L O m) {ph:Int} (hp:0≤ph∧ph≤255):rng (zRE ph m O)∧(zRE ph m O).length≤28:=⟨zQp h.small (fun i hi=>by have:=h.lt hi; have:=h.le; omega) hp,by have:=h.len; simp [zRE,iz]; omega⟩
end Go.Proofs.YtplchdlgdjcojaaGreatDoor
end
section
namespace Go.Proofs.YtplchdlgdjcojaaGreatDoor
open Go
set_option linter.unusedVariables false
set_option linter.unusedSimpArgs false
theorem zLn {d:zB} (h:Rdy d) (h0:d.Active=0):gT d=d.Slots.e0.Image.Version:=by
 unfold gT
 rw [(qF d).2 h.vd,cond_true,h.run,h0]
 rfl
end Go.Proofs.YtplchdlgdjcojaaGreatDoor
end
section
namespace Go.Proofs.YtplchdlgdjcojaaGreatDoor
open Go
set_option linter.unusedVariables false
set_option linter.unusedSimpArgs false
def fB:zV:=⟨[⟨⟨#[98,105,111,115]⟩,⟨2,0,0⟩, [2]⟩,⟨⟨#[109,101]⟩,⟨2,0,0⟩, [2]⟩], []⟩
def oF:List zX:= [⟨⟨#[98,105,111,115]⟩,⟨2,0,0⟩,⟨#[109,101]⟩,⟨2,0,0⟩⟩]
def iD:List zB:= [(zBA ⟨⟨#[98,105,111,115]⟩,⟨1,0,0⟩, [1]⟩).1,(zBA ⟨⟨#[109,101]⟩,⟨1,0,0⟩, [1]⟩).1]
def bF:List zM:= [⟨⟨#[98,105,111,115]⟩,⟨1,0,0⟩⟩,⟨⟨#[109,101]⟩,⟨1,0,0⟩⟩]
theorem cZ:wP fB=0:=by decide+kernel
theorem zFX:zGx fB:=by
 intro x hx
 simp only [fB,List.mem_cons,List.not_mem_nil,or_false] at hx
 rcases hx with rfl | rfl <;> exact zIW (by omega)
theorem zFn:zVw iD:=by
 have h1:=zMv (n:=⟨#[98,105,111,115]⟩) (v:=1) (x:=1) (by decide+kernel) (by omega)
 have h2:=zMv (n:=⟨#[109,101]⟩) (v:=1) (x:=1) (by decide+kernel) (by omega)
 refine ⟨⟨by simp [iD],by simp [iD],?_,fun d hd=>?_⟩,fun d hd=>?_⟩
 ·unfold iD
  rw [List.map_cons,List.map_cons,List.map_nil]
  rw [h1.2.2,h2.2.2]
  decide+kernel
 ·simp only [iD,List.mem_cons,List.not_mem_nil,or_false] at hd
  rcases hd with rfl | rfl
  ·exact h1.1
  ·exact h2.1
 ·simp only [iD,List.mem_cons,List.not_mem_nil,or_false] at hd
  rcases hd with rfl | rfl
  ·exact h1.2.1
  ·exact h2.2.1
theorem zGR:wQ iD=bF:=by
 have h1:=zFn.1.rdy
 have h2:=zFn.2
 have r1:wI ⟨⟨#[98,105,111,115]⟩,⟨1,0,0⟩, [1]⟩=true:=by decide+kernel
 have r2:wI ⟨⟨#[109,101]⟩,⟨1,0,0⟩, [1]⟩=true:=by decide+kernel
 unfold wQ iD
 rw [List.map_cons,List.map_cons,List.map_nil]
 rw [zLn (h1 _ (by simp [iD])) (h2 _ (by simp [iD])),zLn (h1 _ (by simp [iD])) (h2 _ (by simp [iD]))]
 unfold zBA
 rw [r1,r2]
 rfl
theorem zXi:kD bF oF fB=(⟨bF,sO bF fB.Images,oF⟩,0):=zLw (by decide+kernel)
theorem zUQ:sK ⟨bF,sO bF fB.Images,oF⟩=0:=by decide+kernel
theorem zWk:eT ⟨bF,sO bF fB.Images,oF⟩=some [1,0]:=by decide+kernel
theorem zXx:(kK fB).length=44:=by decide+kernel
theorem zTc:jF=some true:=by
 obtain ⟨n1,s,n2,hS⟩:=zNv
 have hL:=zFn
 have hN:qZ oF=true:=by decide+kernel
 have hop:=zLc hL.1 (N:=oF) hN hS.sto (by rw [hS.K]; rfl)
 have hE:tO fB=some (iz (kK fB),0):=by rw [zJQ,zNG cZ,zEo cZ zFX]
 have hl:=zXx
 have hlt:xQ (kK fB):=by
  obtain ⟨b,q1,q2,q3⟩:=zHM zFX
  have:=zNV cZ zFX
  rw [zNG cZ,zEo cZ zFX] at q3
  have hz:kK fB=b:=by
   have hinj:∀ (x y:List Nat),iz x=iz y→x=y:=fun x y h=>by have:=congrArg (List.map Int.toNat) h; simpa [iz,List.map_map,Function.comp_def] using this
   exact hinj _ _ q3
  rw [hz]
  exact q1
 have hdec:pD (kK fB)=(fB,0):=zNV cZ zFX
 generalize kK fB=bb at*
 unfold jF
 rw [n1,bnd_some]
 generalize zAL 2 1024=D at*
 show bnd (wM D 0) _=_
 rw [n2,bnd_some]
 refine yD (zLG (by simp [small])) ?_
 refine yD (zLG (by simp [small])) ?_
 show bnd (sC s iD oF D) _=_
 rw [hop,bnd_some]
 show bnd (tO fB) _=_
 rw [hE,bnd_some]
 show bnd (bif decide (((iz bb).length:Int)<1) then (some true) else (some (decide (((iz bb).length:Int)>128)))) _=_
 have hz:(iz bb).length=44:=by rw [iz_len,hl]
 rw [decide_eq_false (by omega),cond_false,bnd_some,decide_eq_false (by omega),cond_false]
 show bnd (yZ (ag0 iD oF) ((iz bb).length:Int) 64) _=_
 rw [zLp (.inl rfl) (by omega) (by omega),bnd_some]
 have hc1:xP (iz bb).length=1:=by rw [hz]; rfl
 have hsg:=zOo (b:=iz bb) (k:=0) (by omega) (by omega)
 refine yD hsg ?_
 refine yD (zNz (ag0 iD oF) (b:=iz bb) (k:=0) (by omega) (by omega) (by omega)) ?_
 rw [decide_eq_false (by omega:¬ ((iz bb).length:Int)>64),cond_false,bnd_some]
 have hcm:=dY (a:=ag0 iD oF) hL.1 rfl hN hlt (by omega) (by omega) s D
 rw [hdec] at hcm
 have hcb:xP bb.length=0+1:=by rw [hl]; rfl
 rw [hcb] at hcm
 have hpo:pK (ag0 iD oF) fB=⟨bF,sO bF fB.Images,oF⟩:=by
  show (⟨wQ iD,sO (wQ iD) fB.Images,oF⟩:xA)=_
  rw [zGR]
 have hpf:kD (wQ (ag0 iD oF).devices) (ag0 iD oF).needs fB=(⟨bF,sO bF fB.Images,oF⟩,0):=by
  show kD (wQ iD) oF fB=_
  rw [zGR,zXi]
 have hv:=zUQ
 have ho:=zWk
 rw [←hpo] at hv ho
 simp only [hpf] at hcm
 rcases hcm with ⟨e,he,q1,q2⟩ | ⟨q1,q2,q3,q4,q5⟩ | ⟨q1,q2,q3,O,q4,q5,q6⟩
 ·exfalso
  rcases q2 with q2 | ⟨_,⟨q2,_⟩ | ⟨_,q2⟩⟩
  ·exact he q2.symm
  ·exact he q2.symm
  ·rw [zKb,if_pos hv,ho] at q2
   injection q2 with q2
   injection q2 with q2 q3
   cases q2
 ·rw [ho] at q4
  cases q4
 ·rw [ho] at q4
  obtain rfl: [1,0]=O:=Option.some.inj q4
  have hord:=zIv (a:=ag0 iD oF) hL.1 cZ hv ho
  generalize hLL:mL (ag0 iD oF) fB=LL at*
  obtain ⟨w1,w2⟩:=hord.rngJ (ph:=2) (by omega)
  obtain ⟨s',d',p1,p2⟩:=zXp hS (by omega) w1 w2
  unfold zRE at p1
  rw [p1,bnd_some] at q6
  have q7:yL (dlA (ag0 iD oF) (iz bb) (0+1)) s D=some (agC LL oF [1,0] (aJ LL LL.length) 0 2,s',d',0):=q6
  refine yD q7 ?_
  have s1:=zKR (N:=oF) hord (c:=0) (by decide) s' d'
  rw [if_pos (by decide)] at s1
  refine yD s1 ?_
  have s2:=zKR (N:=oF) hord (c:=0+1) (by decide) s' d'
  rw [if_neg (by decide)] at s2
  obtain ⟨s3,d3,t1,t2⟩:=zUJ (L:=LL) (N:=oF) (O:= [1,0]) (m:=aJ LL LL.length) (c:=0+1+1) (ph:=2) p2 (by omega)
  rw [t1,bnd_some] at s2
  refine yD s2 ?_
  rfl
end Go.Proofs.YtplchdlgdjcojaaGreatDoor
end
section
namespace Go.Proofs.YtplchdlgdjcojaaGreatDoor
open Go
set_option linter.unusedVariables false
set_option linter.unusedSimpArgs false
theorem StU.again {d:zA} {s:zD} {v:Option (List Int)} {g:Nat} (h:StU d s v g):∃ s',wM d 0=some (d,some s',0)∧StU d s' v g:=by
 obtain ⟨s',h1,h2⟩:=zKL (f:=0) h.sto.ok h.sto.down h.sto.size h.sto.first
 exact ⟨s',h1,h2,h.left,h.K,h.gen⟩
theorem zRY {c:xW} (hc:vX c):∃ c' L N s bb,jH c=some (c',zAL 2 1024,ag0 L N,iz bb,N,s)∧vX c'∧zVw L∧L.length≤4∧zUb L N∧StU (zAL 2 1024) s none 0∧xQ bb∧bb.length≤8192:=by
 obtain ⟨r1,e2,hc3,hL,h4⟩:=zKr hc (most:=4) (by omega) (by omega)
 obtain ⟨r2,e3,hc4,hN⟩:=zPV hc3 hL.1
 obtain ⟨r9,e9,hc9,hb9⟩:=zSy hc4 hL.1.le (N:=r2.2) (by have:=hN.len; omega)
 obtain ⟨n1,s,n2,hS⟩:=zNv
 have hop:=zLc hL.1 (N:=r2.2) hN.ok hS.sto (by rw [hS.K]; rfl)
 obtain ⟨bb,hb,hbl,hbe⟩:=hb9
 refine ⟨r9.1,r1.2,r2.2,s,bb,?_,hc9,hL,h4,hN,hS,hb,hbl⟩
 unfold jH
 rw [show (4:Int)=((4:Nat):Int) from rfl,e2,bnd_some,e3,bnd_some,n1,bnd_some]
 generalize zAL 2 1024=D at*
 show bnd (wM D 0) _=_
 rw [n2,bnd_some]
 show bnd (sC s r1.2 r2.2 D) _=_
 rw [hop,bnd_some]
 show bnd (pU r2.1 r1.2 r2.2) _=_
 rw [e9,bnd_some,hbe]
theorem zNQ {a:zC} (hp:a.phase=0∨a.phase=1) {b:List Int} (h1:1≤b.length) (h2:b.length≤8192):rG a b=some (dlA a b (xP b.length),true):=by
 unfold rG
 rw [zLp hp h1 h2,bnd_some]
 simp only [bne_self_eq_false,cond_false]
 refine yD (zSL (τ:=(zC × Bool) ⊕ zC) a h1 h2 (fun a _=>.done (.inl (a,false))) (fun a=>.inr a) _ (fun s1=>rfl)) ?_
 rw [retOr_inr]
 have hw:sS (dlA a b (xP b.length)) 1=some []:=by
  unfold sS
  show bnd (rI (dl b (xP b.length)) 1) _=_
  rw [zTT h1 h2,bnd_some]
 rw [hw,bnd_some]
 rfl
theorem zRi {a:zC} (hp:a.phase=0∨a.phase=1):rG a []=some (a,false):=by
 unfold rG
 rw [zPv hp,bnd_some]
 rfl
theorem zDJ {l:List zB} (h:l.length≤1000):uH l l=some true:=by
 unfold uH
 rw [show ((l.length:Int) != (l.length:Int))=false by simp,cond_false]
 refine xY (fun i=>(i:Int)) l.length (.inr ()) rfl (fun i hi=>?_) ?_ rfl
 ·rw [decide_eq_true (by omega:(i:Int)<(l.length:Int)),cond_true,yU hi,bnd_some,bnd_some,zON,bnd_some,Bool.not_true,cond_false,zR hi (by omega)]
 ·rw [decide_eq_false (by omega:¬ (l.length:Int)<(l.length:Int)),cond_false]
theorem zPm (l:List zI) (d:zB):(zKc l d).Name=d.Name:=by
 unfold zKc
 cases zId l d.Name <;> rfl
theorem zOE (a:zC) (B:zV):(mL a B).map (·.Name)=a.devices.map (·.Name):=by
 refine List.ext_getElem? fun i=>?_
 rw [List.getElem?_map,List.getElem?_map,zIy]
 cases a.devices[i]? with
 | none=>rfl
 | some d=>
  simp only [Option.map_some]
  split
  ·rw [zPm]
  ·rfl
theorem zVj {a:zC} (hd:DL a.devices) {B:zV} (hv:wP B=0):DL (mL a B):=
 ⟨by rw [com_len]; exact hd.pos,by rw [com_len]; exact hd.le,by rw [zOE]; exact hd.names,zEk hd hv⟩
theorem dP.few {L:List zB} {O:List Nat} {m:Nat} (h:dP L O m):O.length≤L.length:=by
 have:=h.nd.length_le_of_subset (l₂:=List.range L.length) (fun i hi=>List.mem_range.2 (h.lt hi))
 simpa using this
theorem zIN {a:zC} (h:DL a.devices):yW a=some a.devices:=
 zTO (by have:=h.le; omega) fun d hd=>(h.rdy d hd).sm
end Go.Proofs.YtplchdlgdjcojaaGreatDoor
end
section
namespace Go.Proofs.YtplchdlgdjcojaaGreatDoor
open Go
set_option linter.unusedVariables false
set_option linter.unusedSimpArgs false
theorem zHv {a:zC} (hp:a.phase≠1) (s:zD) (d:zA):yL a s d=some (a,s,d,46):=by
 unfold yL
 rw [xD (by simpa using hp),bnd_some,cond_true]
theorem zLb {a:zC} (hp:a.phase≠1):wH a=some (a,46):=by
 unfold wH
 rw [xD (by simpa using hp)]
theorem zQb {a:zC} (hp:a.phase=1):∃ b,wH a=some (b,0)∧b.phase=0:=by
 unfold wH
 rw [hp]
 exact ⟨_,rfl,rfl⟩
theorem zWN (size:Int):∃ r,vG size 9=some r∧(r.2=0∨r.2=2):=by
 unfold vG
 by_cases h:1≤size∧size≤8192
 ·obtain ⟨n,rfl⟩:∃ n:Nat,size=(n:Int):=⟨size.toNat,by omega⟩
  have e0:xR (n:Int) 9=some true:=by
   unfold xR
   rw [decide_eq_true (by omega:(n:Int)≥1),cond_true,decide_eq_true (by omega:(n:Int)≤8192)]
   rfl
  have e1:vN (n:Int) 9=some (((n+8) / 9:Nat):Int):=by
   unfold vN
   rw [show ((n:Int)+9)=((n+9:Nat):Int) by omega,yS (by omega),show (((n+9:Nat):Int) - 1)=((n+8:Nat):Int) by omega,yS (by omega)]
   unfold zMq
   rw [if_neg (by omega),bnd_some,show (9:Int)=((9:Nat):Int) from rfl,zMS,yS (by omega)]
  have hq:(n+8) / 9≤8200:=by omega
  rw [e0,bnd_some,Bool.not_true,cond_false,e1,bnd_some]
  unfold mkS
  rw [if_pos ⟨by omega,by omega,by omega,by omega⟩,bnd_some,if_pos ⟨by omega,by omega,by omega,by omega⟩,bnd_some]
  exact ⟨_,rfl, .inl rfl⟩
 ·have e0:xR size 9=some false:=by
   unfold xR
   by_cases h1:size≥1
   ·rw [decide_eq_true h1,cond_true,decide_eq_false (by omega:¬ size≤8192)]
    rfl
   ·rw [decide_eq_false h1]
    rfl
  rw [e0,bnd_some]
  exact ⟨_,rfl, .inr rfl⟩
theorem zMJ {a:zC} (hd:DL a.devices) (hst:a.store=true) (hN:qZ a.needs=true) {bb:List Nat} (hb:xQ bb) (h1:1≤bb.length) (h2:bb.length≤8192) (s:zD) (d:zA) (he:(pD bb).2≠0):
  yL (dlA a (iz bb) (xP bb.length)) s d=some (dlA a (iz bb) (xP bb.length),s,d,(pD bb).2):=by
 rcases dY hd hst hN hb h1 h2 s d with ⟨e,h0,q1,q2⟩ | ⟨q1,_⟩ | ⟨q1,_⟩
 ·rcases q2 with q2 | ⟨q2,_⟩
  ·rw [q2]; exact q1
  ·exact absurd q2 he
 ·exact absurd q1 he
 ·exact absurd q1 he
theorem zJU {l:List zB} (hl:l.length≤8) (h:∀ d∈l,Rdy d) (f:Int→Option (rN Int (Bool ⊕ Unit)))
  (hm:∀ s1,f s1=bif decide (s1<(l.length:Int)) then (bnd (elt l s1) fun x1=>bnd (uC x1) fun r25=>bif !r25 then (some (.done (.inl false))) else (some (.next (IntKind.wrap .i64 (s1+1))))) else (some (.done (.inr ())))):yE f 0=some (.inr ()):=by
 refine pO (fun i=>(i:Int)) l.length (fun i hi=>?_) ?_
 ·rw [hm,decide_eq_true (by omega:(i:Int)<(l.length:Int)),cond_true,yU hi,bnd_some,mZ,bnd_some,(qF _).2 (h _ (List.getElem_mem hi)).vd,Bool.not_true,cond_false,zR hi (by omega)]
 ·rw [hm,decide_eq_false (by omega:¬ (l.length:Int)<(l.length:Int)),cond_false]
theorem zIl (codes raw:List Int) (size:Int) (h:okL (inK .u8) codes) (hr:okL (inK .u8) raw) (_:inK .i64 size):oC codes raw size=some true:=by
 unfold oC
 rw [zTc,bnd_some,Bool.not_true,cond_false]
 by_cases h3:¬ raw.length≤300
 ·rw [decide_eq_true (by omega),cond_true]
 replace h3:raw.length≤300:=by omega
 rw [decide_eq_false (by omega),cond_false]
 obtain ⟨c,e1,hc⟩:=zOU h (most:=200) (by omega) (by omega)
 obtain ⟨c',L,N,s,bb,e2,hc',hL,h4,hN,hS,hb,hbl⟩:=zRY hc
 rw [e1,bnd_some,e2,bnd_some]
 generalize zAL 2 1024=D at*
 simp only
 have hp0:(ag0 L N).phase≠1:=by show (0:Int)≠1; omega
 rw [zHv hp0,bnd_some]
 simp only [bne_self_eq_false,cond_false]
 rw [zLb hp0,bnd_some]
 simp only [bne_self_eq_false,cond_false]
 rw [zNJ hp0,bnd_some]
 simp only [bne_self_eq_false,cond_false,bnd_some]
 have hdv:yW (ag0 L N)=some L:=zIN (a:=ag0 L N) hL.1
 rw [hdv,bnd_some]
 -- the raw bytes
 obtain ⟨a2,k1,k2⟩:∃ a2:zC,(bnd ((bif decide ((raw.length:Int)>0) then (bnd (rG (ag0 L N) raw) fun r8=>some (r8.2,r8.1)) else (some (false,ag0 L N)):Option (Bool × zC))) fun o4=>bif o4.1 then (bnd (rA raw) fun r9=>bnd ((bif (r9.2 != 0) then (bnd (yL o4.2 s D) fun r10=>bif (r10.2.2.2 != r9.2) then (some (L,true,r10.1,r10.2.2.1,r10.2.1)) else (bnd (xO r10.1) fun r11=>bif (r11 != 1) then (some (L,true,r10.1,r10.2.2.1,r10.2.1)) else (bnd (yW r10.1) fun r12=>bnd (uH r12 L) fun r13=>some (L,!r13,r10.1,r10.2.2.1,r10.2.1)))) else (some (L,false,o4.2,D,s)):Option (List zB × Bool × zC × zA × zD))) fun o5=>bif o5.2.1 then (some (.inl false)) else (some (.inr (o5.1,o5.2.2.1,o5.2.2.2.1,o5.2.2.2.2)))) else (some (.inr (L,o4.2,D,s))):Option (Bool ⊕ (List zB × zC × zA × zD)))=some (.inr (L,a2,D,s))∧
   (a2=ag0 L N∨∃ b k,a2=dlA (ag0 L N) b k):=by
  by_cases hr0:raw.length=0
  ·refine ⟨ag0 L N,?_, .inl rfl⟩
   rw [decide_eq_false (by omega),cond_false,bnd_some]
   rfl
  ·obtain ⟨rb,hrb,rfl⟩:=zMr hr
   rw [iz_len] at hr0 h3
   have hrl:(iz rb).length=rb.length:=iz_len rb
   refine ⟨dlA (ag0 L N) (iz rb) (xP rb.length),?_, .inr ⟨_,_,rfl⟩⟩
   rw [decide_eq_true (by omega),cond_true,zNQ (.inl rfl) (by omega) (by omega),bnd_some,bnd_some,hrl]
   simp only [cond_true]
   rw [zDG hrb (by omega),bnd_some]
   by_cases hz:(pD rb).2=0
   ·rw [yR (by simpa using hz),bnd_some]
    rfl
   ·rw [xD (by simpa using hz),zMJ (a:=ag0 L N) hL.1 rfl hN.ok hrb (by omega) (by omega) s D hz,bnd_some]
    simp only [bne_self_eq_false,cond_false]
    rw [eZ,bnd_some,show (dlA (ag0 L N) (iz rb) (xP rb.length)).phase=1 from rfl]
    simp only [bne_self_eq_false,cond_false]
    rw [zIN (a:=dlA (ag0 L N) (iz rb) (xP rb.length)) hL.1,bnd_some]
    show bnd (bnd (uH L L) _) _=_
    rw [zDJ (by omega),bnd_some,bnd_some]
    rfl
 refine yD k1 ?_
 rw [retOr_inr]
 have hp2:a2.phase=0∨a2.phase=1:=by rcases k2 with rfl | ⟨b,k,rfl⟩; exact .inl rfl; exact .inr rfl
 rw [eZ,bnd_some,yR (by rcases hp2 with h | h <;> rw [h] <;> rfl)]
 by_cases h0:bb.length=0
 ·obtain rfl:bb= []:=List.length_eq_zero_iff.1 h0
  rw [iz_nil,zRi hp2,bnd_some,bnd_some]
  rfl
 have hrl:(iz bb).length=bb.length:=iz_len bb
 have hdl:dlA a2 (iz bb) (xP (iz bb).length)=dlA (ag0 L N) (iz bb) (xP bb.length):=by
  rw [hrl]
  rcases k2 with rfl | ⟨b,k,rfl⟩ <;> rfl
 rw [zNQ hp2 (by omega) (by omega),bnd_some,bnd_some,hdl]
 simp only [Bool.not_true,cond_false]
 rcases dY (a:=ag0 L N) hL.1 rfl hN.ok hb (by omega) hbl s D with ⟨e,he,q1,q2⟩ | ⟨q1,q2,q3,q4,q5⟩ | ⟨q1,q2,q3,O,q4,q5,q6⟩
 ·rw [q1,bnd_some]
  simp only
  rw [xD (by simpa using he),eZ,bnd_some,show (dlA (ag0 L N) (iz bb) (xP bb.length)).phase=1 from rfl]
  simp only [beq_self_eq_true,cond_true]
  rw [zIN (a:=dlA (ag0 L N) (iz bb) (xP bb.length)) hL.1,bnd_some]
  show bnd (bnd (uH L L) _) _=_
  rw [zDJ (by omega),bnd_some,cond_true]
  obtain ⟨b,w1,w2⟩:=zQb (a:=dlA (ag0 L N) (iz bb) (xP bb.length)) rfl
  rw [w1,bnd_some]
  simp only [beq_self_eq_true,cond_true]
  rw [eZ,bnd_some,w2]
  rfl
 ·rw [q5,bnd_some]
  simp only [bne_self_eq_false,cond_false]
  rw [eZ,bnd_some]
  rfl
 ·have hv:=zNK q1
  have hord:=zIv (a:=ag0 L N) hL.1 hv q3 q4
  obtain ⟨w1,w2⟩:=hord.rngJ (ph:=2) (by omega)
  obtain ⟨s',d',p1,p2⟩:=zXp hS (by omega) w1 w2
  have hD:=zVj (a:=ag0 L N) hL.1 hv
  rw [q6]
  unfold zRE at p1
  rw [p1,bnd_some]
  simp only [if_true,bnd_some,bne_self_eq_false,cond_false]
  generalize hA:agC (mL (ag0 L N) (pD bb).1) (ag0 L N).needs O (aJ (mL (ag0 L N) (pD bb).1) (mL (ag0 L N) (pD bb).1).length) 0 2=A
  have hA2:A.phase=2:=by rw [←hA]; rfl
  have hAd:A.devices=mL (ag0 L N) (pD bb).1:=by rw [←hA]; exact zKs _ _
  rw [eZ,bnd_some,hA2]
  rw [show ((2:Int)==0)=false from rfl,cond_false]
  obtain ⟨r,z1,z2⟩:=zWN size
  rw [z1,bnd_some,zIN (by rw [hAd]; exact hD),bnd_some,hAd]
  refine yD (zJU hD.le hD.rdy _ (fun _=>rfl)) ?_
  rw [retOr_inr,zMI (.inl hA2),bnd_some]
  simp only [beq_self_eq_true,cond_true]
  have hA1:A.phase≠1:=by omega
  rw [zNJ hA1,bnd_some]
  simp only [beq_self_eq_true,cond_true]
  rw [zLb hA1,bnd_some]
  simp only [beq_self_eq_true,cond_true]
  rw [zHv hA1,bnd_some]
  simp only [beq_self_eq_true,cond_true]
  rcases z2 with z2 | z2 <;> rw [z2] <;> rfl
end Go.Proofs.YtplchdlgdjcojaaGreatDoor
end
