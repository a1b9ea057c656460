/-
  Texts of this seat, put together: rules, walks, plain laws.
  Conditions: none.
-/
import Derived.Test.YtplchdlgdjcojaaGreatDoorPW6
section
namespace Go.Proofs.YtplchdlgdjcojaaGreatDoor
open Go
set_option linter.unusedVariables false
set_option linter.unusedSimpArgs false
def dlA (a:zD) (b:List Int) (k:Nat):zD:=⟨a.store,a.devices,a.needs,1,dl b k,a.before,a.order⟩
theorem zKp {a:zD} (hp:a.phase=0∨a.phase=1) {b:List Int} (h1:1≤b.length) (h2:b.length≤8192):xG a (b.length:Int) 64=some (dlA a b 0,0):=by
 unfold xG
 rw [show (a.phase==2||(a.phase==3||false))=false by rcases hp with h | h <;> rw [h] <;> rfl,cond_false,zSe h1 h2,bnd_some]
 rfl
theorem zQa {a:zD} (hp:a.phase=0∨a.phase=1):xG a (([]:List Int).length:Int) 64=some (a,2):=by
 unfold xG
 rw [show (a.phase==2||(a.phase==3||false))=false by rcases hp with h | h <;> rw [h] <;> rfl,cond_false]
 show bnd (sQ ((0:Nat):Int) 64) _=_
 rw [zSY (n:=0) (.inl rfl),bnd_some]
 rfl
theorem zMG {a:zD} (hp:a.phase=2∨a.phase=3) (n p:Int):xG a n p=some (a,46):=by
 unfold xG
 rw [show (a.phase==2||(a.phase==3||false))=true by rcases hp with h | h <;> rw [h] <;> rfl,cond_true]
theorem zNz (a:zD) {b:List Int} {k:Nat} (h1:1≤b.length) (h2:b.length≤8192) (hk:k<wM b.length):vC (dlA a b k) (k:Int) (zAO b k)=some (dlA a b (k+1),0):=by
 unfold vC
 rw [show ((dlA a b k).phase != 1)=false from rfl,cond_false]
 show bnd (rR (dl b k) _ _) _=_
 rw [zTA h1 h2 hk,bnd_some]
 rfl
theorem zNB {b:List Int} {k:Nat} (h2:b.length≤8192) (hk:k<wM b.length):sub b (IntKind.wrap .i64 ((k:Int)*64)) (min (b.length:Int) (IntKind.wrap .i64 ((IntKind.wrap .i64 ((k:Int)+1))*64)))=some (zAO b k):=by
 have hc:64*k<b.length:=by unfold wM at hk; omega
 rw [show ((k:Int)*64)=((64*k:Nat):Int) by omega,yX (by omega),show ((k:Int)+1)=((k+1:Nat):Int) by omega,yX (by omega),show (((k+1:Nat):Int)*64)=((64*k+64:Nat):Int) by omega,yX (by omega)]
 rw [show min (b.length:Int) ((64*k+64:Nat):Int)=((min (64*k+64) b.length:Nat):Int) by omega]
 unfold sub
 rw [if_pos ⟨by omega,by omega,by omega⟩,Int.toNat_natCast,Int.toNat_natCast]
 rfl
def nEq (x y:zT):Bool:=(x.Component.toList==y.Component.toList)&&(((x.From.Major==y.From.Major)&&((x.From.Minor==y.From.Minor)&&((x.From.Patch==y.From.Patch)&&true)))&&((x.On.toList==y.On.toList)&&(((x.At.Major==y.At.Major)&&((x.At.Minor==y.At.Minor)&&((x.At.Patch==y.At.Patch)&&true)))&&true)))
theorem zBc {l:List zT} (hl:l.length≤1000) (x:zT):wD l x=some (l.any (nEq x)):=by
 unfold wD uB
 cases hr:l.any (nEq x)
 ·refine yD (a:= -1) ?_ rfl
  refine xS (fun i=>(i:Int)) l.length (.inr ()) rfl (fun i hi=>?_) ?_ rfl
  ·have:=List.any_eq_false.1 hr _ (List.getElem_mem hi)
   rw [decide_eq_true (by omega:(i:Int)<(l.length:Int)),cond_true,yR hi,bnd_some]
   show (bif nEq x l[i] then _ else _)=_
   rw [yP (by simpa using this),zQ hi (by omega)]
  ·rw [decide_eq_false (by omega:¬ (l.length:Int)<(l.length:Int))]; rfl
 ·
  have hex:∃ k,∃ h:k<l.length,nEq x l[k]=true∧∀ j,(hj:j<k)→nEq x (l[j]'(by omega))=false:=by
   have h1:∃ k,∃ h:k<l.length,nEq x l[k]=true:=by
    obtain ⟨y,hy,h2⟩:=List.any_eq_true.1 hr
    obtain ⟨k,hk,he⟩:=List.mem_iff_getElem.1 hy
    exact ⟨k,hk,by rw [he]; exact h2⟩
   obtain ⟨k,hk,h2⟩:=h1
   induction k using Nat.strongRecOn with
   | ind k ih=>
    by_cases hall:∀ j,(hj:j<k)→nEq x (l[j]'(by omega))=false
    ·exact ⟨k,hk,h2,hall⟩
    ·simp only [Classical.not_forall] at hall
     obtain ⟨j,hj,h3⟩:=hall
     exact ih j hj (by omega) (by simpa using h3)
  obtain ⟨k,hk,h2,h3⟩:=hex
  refine yD (a:=(k:Int)) ?_ (by rw [decide_eq_true (by omega:(k:Int)≥0)])
  refine yD (a:=.inl (k:Int)) ?_ rfl
  refine qM (fun i=>(i:Int)) k (fun i hi=>?_) ?_
  ·rw [decide_eq_true (by omega:(i:Int)<(l.length:Int)),cond_true,yR (by omega:i<l.length),bnd_some]
   show (bif nEq x l[i] then _ else _)=_
   rw [h3 i hi,cond_false,zQ hi (by omega)]
  ·rw [decide_eq_true (by omega:(k:Int)<(l.length:Int)),cond_true,yR hk,bnd_some]
   show (bif nEq x l[k] then _ else _)=_
   rw [h2,cond_true]
def mI (l:List ByteArray):Prop:=l.Pairwise (· ≠·)
theorem fV {l:List ByteArray} (h:mI l) {i j:Nat} (hi:i<l.length) (hj:j<l.length) (he:l[i]=l[j]):i=j:=by
 have hp:=List.pairwise_iff_getElem.1 h
 rcases Nat.lt_trichotomy i j with hij | hij | hij
 ·exact absurd he (hp i j hi hj hij)
 ·exact hij
 ·exact absurd he.symm (hp j i hj hi hij)
theorem zFC {l:List ByteArray} (h:lU l=true):mI l:=List.pairwise_iff_getElem.2 fun i j hi hj hij=>zKu h hi hj (by omega)
theorem zRZ {nx:List zL} (hl:nx.length≤1000) (hd:mI (nx.map (·.Name))) (x:zH):
  (∃ k,∃ h:k<nx.length,nx[k].Name=x.Name∧zV nx x=some (k:Int))∨
  ((∀ c∈nx,c.Name≠x.Name)∧zV nx x=some (-1)):=by
 have step:∀ i,(h:i<nx.length)→uU nx[i] x=some (decide (nx[i].Name=x.Name)):=fun i h=>by
  unfold uU
  rw [eE]
 by_cases hex:∃ k,∃ h:k<nx.length,nx[k].Name=x.Name
 ·obtain ⟨k,hk,he⟩:=hex
  refine .inl ⟨k,hk,he,?_⟩
  unfold zV
  refine yD (a:=.inl (k:Int)) ?_ rfl
  refine qM (fun i=>(i:Int)) k (fun i hi=>?_) ?_
  ·have hne:nx[i].Name≠x.Name:=fun hh=>by
    have:=fV hd (i:=i) (j:=k) (by rw [List.length_map]; omega) (by rw [List.length_map]; omega) (by rw [List.getElem_map,List.getElem_map,hh,he])
    omega
   rw [decide_eq_true (by omega:(i:Int)<(nx.length:Int)),cond_true,yR (by omega:i<nx.length),bnd_some,step,bnd_some,decide_eq_false hne,cond_false,zQ hi (by omega)]
  ·rw [decide_eq_true (by omega:(k:Int)<(nx.length:Int)),cond_true,yR hk,bnd_some,step,bnd_some,decide_eq_true he,cond_true]
 ·have hno:∀ c∈nx,c.Name≠x.Name:=fun c hc he=>by
   obtain ⟨k,hk,h2⟩:=List.mem_iff_getElem.1 hc
   exact hex ⟨k,hk,by rw [h2]; exact he⟩
  refine .inr ⟨hno,?_⟩
  unfold zV
  refine xS (fun i=>(i:Int)) nx.length (.inr ()) rfl (fun i hi=>?_) ?_ rfl
  ·rw [decide_eq_true (by omega:(i:Int)<(nx.length:Int)),cond_true,yR hi,bnd_some,step,bnd_some,decide_eq_false (hno _ (List.getElem_mem hi)),cond_false,zQ hi (by omega)]
  ·rw [decide_eq_false (by omega:¬ (nx.length:Int)<(nx.length:Int))]; rfl
def vOf (l:List zH) (n:ByteArray) (v:zK):zK:=match l.find? (fun x=>decide (x.Name=n)) with
 | some x=>x.Version
 | none=>v
def uG (now:List zL) (l:List zH):List zL:=now.map fun c=>⟨c.Name,vOf l c.Name c.Version⟩
def zSF (now:List zL) (n:ByteArray):Bool:=now.any fun c=>decide (c.Name=n)
@[simp] theorem nextL_len (now:List zL) (l:List zH):(uG now l).length=now.length:=by simp [uG]
theorem zKn {now:List zL} (l:List zH) {j:Nat} (hj:j<now.length):(uG now l)[j]'(by simpa using hj)=⟨now[j].Name,vOf l now[j].Name now[j].Version⟩:=by simp [uG]
theorem zKL (now:List zL) (l:List zH):(uG now l).map (·.Name)=now.map (·.Name):=by
 simp [uG,List.map_map,Function.comp_def]
theorem zOR (now:List zL):uG now []=now:=by
 unfold uG vOf
 simp
theorem zPV {now:List zL} (hd:mI (now.map (·.Name))) {l:List zH} {x:zH} (hx:∀ y∈l,y.Name≠x.Name) {k:Nat} (hk:k<now.length) (he:now[k].Name=x.Name):(uG now l).set k ⟨x.Name,x.Version⟩=uG now (l++ [x]):=by
 apply List.ext_getElem (by simp)
 intro j h1 h2
 have hj:j<now.length:=by simpa using h2
 rw [List.getElem_set,zKn l hj,zKn (l++ [x]) hj]
 by_cases hkj:k=j
 ·subst hkj
  rw [if_pos rfl,he]
  unfold vOf
  rw [List.find?_append,List.find?_eq_none.2 fun y hy=>by simpa using hx y hy]
  simp
 ·rw [if_neg hkj]
  have hne:x.Name≠now[j].Name:=fun hh=>hkj (fV hd (by rw [List.length_map]; omega) (by rw [List.length_map]; omega) (by rw [List.getElem_map,List.getElem_map,he,hh]))
  unfold vOf
  rw [List.find?_append]
  cases hf:l.find? (fun y=>decide (y.Name=now[j].Name)) with
  | none=>simp [hne]
  | some y=>simp
def kA (now:List zL) (N:List zT) (B:zX):xE × Int:=
 if (B.Images.all fun x=>zSF now x.Name)=true then (if (B.Needs.all fun x=>N.any (nEq x))=true then (⟨now,uG now B.Images,N⟩,0) else (⟨[], [], []⟩,42)) else (⟨[], [], []⟩,8)
theorem zUk {a:zD} (h8:a.devices.length≤8) (hd:mI ((yT a.devices).map (·.Name))) (hN:a.needs.length≤16) {B:zX} (hB:B.Images.length≤8) (hBn:B.Needs.length≤16) (hi:mI (B.Images.map (·.Name))):
  tW a B=some (kA (yT a.devices) a.needs B):=by
 unfold tW kA
 rw [zUb (by omega),bnd_some,bnd_some,zGH (by omega),bnd_some]
 generalize hnow:yT a.devices=now at*
 have hnl:now.length≤8:=by rw [←hnow]; simp [yT]; omega
 -- the images
 have himg:∀ (m:Int × List zL→Option (rG (Int × List zL) ((xE × Int) ⊕ List zL))),
   (∀ s1,m s1=bif decide (s1.1<(B.Images.length:Int)) then (bnd (elt B.Images s1.1) fun x1=>bnd (zV s1.2 x1) fun r4=>bif decide (r4<0) then (some (.done (.inl ((⟨[], [], []⟩:xE),8)))) else (bnd (elt s1.2 r4) fun x2=>bnd (tH s1.2 r4 (⟨x2.Name,x1.Version⟩:zL)) fun l1=>some (.next (IntKind.wrap .i64 (s1.1+1),l1)))) else (some (.done (.inr s1.2))))→
   yG m (0,now)=some (if (B.Images.all fun x=>zSF now x.Name)=true then .inr (uG now B.Images) else .inl (⟨[], [], []⟩,8)):=by
  intro m hm
  have key:∀ (r i:Nat),i+r=B.Images.length→((B.Images.take i).all fun x=>zSF now x.Name)=true→yG m ((i:Int),uG now (B.Images.take i))=some (if (B.Images.all fun x=>zSF now x.Name)=true then .inr (uG now B.Images) else .inl (⟨[], [], []⟩,8)):=by
   intro r
   induction r with
   | zero=>
    intro i hir hall
    rw [List.take_of_length_le (by omega)] at hall ⊢
    rw [if_pos hall]
    refine xR ?_
    rw [hm]
    simp only
    rw [decide_eq_false (by omega:¬ (i:Int)<(B.Images.length:Int)),cond_false]
   | succ r ih=>
    intro i hir hall
    have hib:i<B.Images.length:=by omega
    have ht:B.Images.take (i+1)=B.Images.take i++ [B.Images[i]]:=yY hib
    rcases zRZ (nx:=uG now (B.Images.take i)) (by simp; omega) (by rw [zKL]; exact hd) B.Images[i] with ⟨k,hk,h1,h2⟩ | ⟨h1,h2⟩
    ·have hkn:k<now.length:=by simpa using hk
     have h1':now[k].Name=B.Images[i].Name:=by
      rw [←h1]
      simp [uG]
     refine tN (s':=(((i+1:Nat):Int),uG now (B.Images.take (i+1)))) ?_ (ih (i+1) (by omega) ?_)
     ·rw [hm]
      simp only
      rw [decide_eq_true (by omega:(i:Int)<(B.Images.length:Int)),cond_true,yR hib,bnd_some,h2,bnd_some,decide_eq_false (by omega:¬ (k:Int)<0),cond_false,yR hk,bnd_some,sR hk,bnd_some,zQ hib (by omega),h1,zPV hd (fun y hy he=>?_) hkn h1',ht]
      obtain ⟨j,hj,hje⟩:=List.mem_iff_getElem.1 hy
      rw [List.length_take] at hj
      rw [List.getElem_take] at hje
      have:=fV hi (i:=j) (j:=i) (by rw [List.length_map]; omega) (by rw [List.length_map]; omega) (by rw [List.getElem_map,List.getElem_map,hje,he])
      omega
     ·rw [ht,List.all_append,hall,Bool.true_and]
      simp only [List.all_cons,List.all_nil,Bool.and_true]
      exact List.any_eq_true.2 ⟨now[k],List.getElem_mem hkn,decide_eq_true h1'⟩
    ·rw [if_neg]
     ·refine xR ?_
      rw [hm]
      simp only
      rw [decide_eq_true (by omega:(i:Int)<(B.Images.length:Int)),cond_true,yR hib,bnd_some,h2,bnd_some]
      rfl
     ·intro hh
      have:=List.all_eq_true.1 hh _ (List.getElem_mem hib)
      obtain ⟨c,hc,hce⟩:=List.any_eq_true.1 this
      obtain ⟨k,hk,he⟩:=List.mem_iff_getElem.1 hc
      refine h1 ((uG now (B.Images.take i))[k]'(by simpa using hk)) (List.getElem_mem _) ?_
      simp only [uG,List.getElem_map,he]
      exact of_decide_eq_true hce
  have:=key B.Images.length 0 (by omega) rfl
  rw [List.take_zero,zOR] at this
  exact this
 refine yD (himg _ (fun _=>rfl)) ?_
 by_cases hall:(B.Images.all fun x=>zSF now x.Name)=true
 ·rw [if_pos hall,if_pos hall,retOr_inr]
  by_cases hnd:(B.Needs.all fun x=>a.needs.any (nEq x))=true
  ·rw [if_pos hnd]
   refine xS (fun i=>(i:Int)) B.Needs.length (.inr ()) rfl (fun i hi=>?_) ?_ rfl
   ·rw [decide_eq_true (by omega:(i:Int)<(B.Needs.length:Int)),cond_true,yR hi,bnd_some,zBc (by omega),bnd_some,List.all_eq_true.1 hnd _ (List.getElem_mem hi),Bool.not_true,cond_false,zQ hi (by omega)]
   ·rw [decide_eq_false (by omega:¬ (B.Needs.length:Int)<(B.Needs.length:Int))]; rfl
  ·rw [if_neg hnd]
   refine nA (fun i=>(i:Int)) B.Needs.length (fun i=>match B.Needs[i]? with | some x=>!a.needs.any (nEq x) | none=>false) (.inl (⟨[], [], []⟩,42)) (.inr ()) rfl (fun i hi=>?_) ?_ ?_
   ·rw [decide_eq_true (by omega:(i:Int)<(B.Needs.length:Int)),cond_true,yR hi,bnd_some,zBc (by omega),bnd_some,List.getElem?_eq_getElem hi,zQ hi (by omega)]
    show (bif !a.needs.any (nEq B.Needs[i]) then _ else _)=some (bif !a.needs.any (nEq B.Needs[i]) then _ else _)
    cases a.needs.any (nEq B.Needs[i]) <;> rfl
   ·rw [decide_eq_false (by omega:¬ (B.Needs.length:Int)<(B.Needs.length:Int))]; rfl
   ·have:((List.range B.Needs.length).any fun i=>match B.Needs[i]? with | some x=>!a.needs.any (nEq x) | none=>false)=true:=by
     refine List.any_eq_true.2 ?_
     have h2:∃ x∈B.Needs,¬ (a.needs.any (nEq x))=true:=by
      refine Classical.byContradiction fun hh=>hnd (List.all_eq_true.2 fun x hx=>Classical.byContradiction fun h3=>hh ⟨x,hx,h3⟩)
     obtain ⟨x,hx,h3⟩:=h2
     obtain ⟨i,hi,he⟩:=List.mem_iff_getElem.1 hx
     refine ⟨i,by simpa using hi,?_⟩
     rw [List.getElem?_eq_getElem hi,he]
     simpa using h3
    rw [this,cond_true]
    rfl
 ·rw [if_neg hall,if_neg hall]
  rfl
end Go.Proofs.YtplchdlgdjcojaaGreatDoor
end
section
namespace Go.Proofs.YtplchdlgdjcojaaGreatDoor
open Go
set_option linter.unusedVariables false
set_option linter.unusedSimpArgs false
def zEf (d:zB) (x:zH):zB:=⟨d.Name,mW d.Slots (1 - d.Running) ⟨x,mU x⟩,d.Active,d.Running,d.Trial⟩
theorem zHC (a:rA yB) (k:Int) (y z:yB):mW (mW a k y) k z=mW a k z:=by
 unfold mW
 split <;> rfl
theorem zKF {x:zH} {n:ByteArray} (h:wA x=true) (hn:x.Name=n):sH ⟨x,mU x⟩ n=true:=by
 unfold sH zAm
 simp [h,hn]
theorem zEe {x:zH} (h:wA x=true):small x:=by
 have:=(rZ h).2.2.2
 unfold small; omega
theorem zPC {d:zB} (h:Rdy d) {x:zH} (hx:wA x=true) (hn:x.Name=d.Name):Two (zEf d x):=by
 have hi:=zIS (n:=d.Name) ⟨h.vd,rfl,h.sm⟩ h.run h.tr (y:=⟨x,mU x⟩) (zEe hx)
 refine ⟨⟨hi.vd,hi.sm,h.run,h.tr⟩,?_⟩
 show sH (uM (mW d.Slots (1 - d.Running) ⟨x,mU x⟩) (1 - d.Active)) d.Name=true
 rw [h.run,zGr]
 exact zKF hx hn
theorem zRF {a:zD} {k:Nat} {d:zB} (hd:a.devices[k]? =some d) (h:Rdy d) {x:zH} (hx:wA x=true) (hn:x.Name=d.Name):
  tD a (k:Int) x=some (⟨a.store,a.devices.set k (zEf d x),a.needs,a.phase,a.load,a.before,a.order⟩,0):=by
 have hk:=(List.getElem?_eq_some_iff.1 hd).1
 have hi0:Inv d d.Name:=⟨h.vd,rfl,h.sm⟩
 have hxs:=zEe hx
 have e1:zJg d=(⟨d.Name,mW d.Slots (1 - d.Running) lO,d.Active,d.Running,d.Trial⟩,0):=by
  unfold zJg
  rw [zNH h.vd h.run h.tr]
  rfl
 have hi1:Inv ⟨d.Name,mW d.Slots (1 - d.Running) lO,d.Active,d.Running,d.Trial⟩ d.Name:=zIS hi0 h.run h.tr zFg
 have e2:zJw ⟨d.Name,mW d.Slots (1 - d.Running) lO,d.Active,d.Running,d.Trial⟩ x (x.Data.length:Int)=(⟨d.Name,mW d.Slots (1 - d.Running) ⟨x,0⟩,d.Active,d.Running,d.Trial⟩,0):=by
  unfold zJw
  rw [zNH hi1.vd h.run h.tr]
  have hok:cF ⟨d.Name,mW d.Slots (1 - d.Running) lO,d.Active,d.Running,d.Trial⟩ x (x.Data.length:Int)=true:=by
   unfold cF
   simp [hx,hn]
  rw [hok]
  simp only [bne_self_eq_false,cond_false,cond_true,zHC,Int.toNat_natCast,List.take_length]
 have hi2:Inv ⟨d.Name,mW d.Slots (1 - d.Running) ⟨x,0⟩,d.Active,d.Running,d.Trial⟩ d.Name:=zIS hi0 h.run h.tr (y:=⟨x,0⟩) hxs
 have e3:zEC ⟨d.Name,mW d.Slots (1 - d.Running) ⟨x,0⟩,d.Active,d.Running,d.Trial⟩ (mU x)=(zEf d x,0):=by
  unfold zEC
  rw [zNH hi2.vd h.run h.tr]
  simp only [bne_self_eq_false,cond_false,zGr,zHC]
  rw [zKF hx hn,cond_true]
  rfl
 unfold tD
 rw [elt_nat,hd,bnd_some,zNt h.sm,bnd_some,e1]
 simp only [bne_self_eq_false,cond_false,bnd_some]
 rw [sR hk,bnd_some,zMc hi1.sm hxs,bnd_some,e2]
 simp only [bne_self_eq_false,cond_false]
 rw [aE,bnd_some,zKl hi2.sm,bnd_some,e3]
 simp only [bne_self_eq_false,cond_false]
 rw [elt_nat,List.getElem?_set_self hk,bnd_some,sR (by simpa using hk),bnd_some,List.set_set]
def zIZ (l:List zH) (n:ByteArray):Option zH:=l.find? fun x=>decide (x.Name=n)
theorem zOA (l:List zH) (n:ByteArray) (v:zK):vOf l n v=match zIZ l n with | some x=>x.Version | none=>v:=rfl
theorem zKT {l:List zH} (hd:mI (l.map (·.Name))) {n:ByteArray} {x:zH} (h:zIZ l n=some x):∃ k,∃ hk:k<l.length,l[k]=x∧x.Name=n∧zKj l n=(k:Int):=by
 unfold zIZ at h
 have hn:x.Name=n:=by simpa using List.find?_some h
 obtain ⟨k,hk,he⟩:=List.mem_iff_getElem.1 (List.mem_of_find?_eq_some h)
 refine ⟨k,hk,he,hn,?_⟩
 unfold zKj
 rw [zJK (i:=k) (v:=(k:Int)) hk (by rw [List.getElem?_eq_getElem hk,he,Option.map_some,hn,if_pos rfl]) (fun j hj=>?_)]
 rw [List.getElem?_eq_getElem (by omega),Option.map_some,if_neg]
 intro hh
 injection hh with hh
 have:=fV hd (i:=j) (j:=k) (by rw [List.length_map]; omega) (by rw [List.length_map]; omega) (by rw [List.getElem_map,List.getElem_map,hh,he,hn])
 omega
def zLt (l:List zH) (d:zB):zB:=match zIZ l d.Name with | some x=>zEf d x | none=>d
def wrL (L:List zB) (l:List zH) (S:List Nat) (j:Nat):List zB:=L.mapIdx fun i d=>if i∈S.take j then zLt l d else d
@[simp] theorem wrL_len (L:List zB) (l:List zH) (S:List Nat) (j:Nat):(wrL L l S j).length=L.length:=by simp [wrL]
theorem zBP (L:List zB) (l:List zH) (S:List Nat) (j i:Nat):(wrL L l S j)[i]? =L[i]?.map fun d=>if i∈S.take j then zLt l d else d:=by simp [wrL,List.getElem?_mapIdx]
theorem zSN (L:List zB) (l:List zH) (S:List Nat):wrL L l S 0=L:=by
 apply List.ext_getElem?
 intro i
 rw [zBP]
 simp
theorem zRb {L:List zB} {l:List zH} {S:List Nat} (h:S.Nodup) {c:Nat} (hc:c<S.length) {d:zB} (hd:L[S[c]]? =some d):(wrL L l S c).set S[c] (zLt l d)=wrL L l S (c+1):=by
 apply List.ext_getElem?
 intro i
 rw [List.getElem?_set,zBP,zBP,wrL_len]
 have hlt:S[c]<L.length:=(List.getElem?_eq_some_iff.1 hd).1
 have ht:S.take (c+1)=S.take c++ [S[c]]:=yY hc
 by_cases hi:S[c]=i
 ·subst hi
  rw [if_pos rfl,if_pos hlt,hd,Option.map_some,if_pos ((wY h hc _).2 (by omega))]
 ·rw [if_neg hi]
  have:(i∈S.take (c+1))↔i∈S.take c:=by
   rw [ht,List.mem_append,List.mem_singleton]
   constructor
   ·rintro (h | h)
    ·exact h
    ·exact absurd h.symm hi
   ·exact .inl
  simp only [this]
def eD (a:zD) (L:List zB):zD:=⟨a.store,L,a.needs,a.phase,a.load,a.before,a.order⟩
theorem zPR {a:zD} {B:zX} (hB:B.Images.length≤8) (hd:mI (B.Images.map (·.Name))) (hr:∀ x∈B.Images,wA x=true) {S:List Nat} (hS:S.Nodup) (hl:S.length≤1000)
  (hk:∀ k∈S,∃ d x,a.devices[k]? =some d∧Rdy d∧zIZ B.Images d.Name=some x) (bad:zD→Int→(zD × zC × zA × Int))
  (m:zD × Int→Option (rG (zD × Int) ((zD × zC × zA × Int) ⊕ zD)))
  (hm:∀ s1,m s1=bif decide (s1.2<((iz S).length:Int)) then (bnd (elt (iz S) s1.2) fun x1=>bnd (elt s1.1.devices x1) fun x2=>bnd (nZ B x2.Name) fun r7=>bnd (elt B.Images r7) fun x3=>bnd (tD s1.1 x1 x3) fun r8=>bif (r8.2 != 0) then (some (.done (.inl (bad r8.1 r8.2)))) else (some (.next (r8.1,IntKind.wrap .i64 (s1.2+1))))) else (some (.done (.inr s1.1)))):
  yG m (a,0)=some (.inr (eD a (wrL a.devices B.Images S S.length))):=by
 have h0:a=eD a (wrL a.devices B.Images S 0):=by rw [zSN]; rfl
 have:=qM (m:=m) (t:=.inr (eD a (wrL a.devices B.Images S S.length))) (fun i=>(eD a (wrL a.devices B.Images S i),(i:Int))) S.length (fun i hi=>?_) ?_
 ·rw [←h0] at this; exact this
 ·rw [hm]
  simp only
  obtain ⟨d,x,h1,h2,h3⟩:=hk _ (List.getElem_mem hi)
  obtain ⟨k,hkl,h4,h5,h6⟩:=zKT hd h3
  have hdev:(eD a (wrL a.devices B.Images S i)).devices[S[i]]? =some d:=by
   show (wrL a.devices B.Images S i)[S[i]]? =_
   rw [zBP,h1,Option.map_some,if_neg (fun hh=>absurd ((wY hS hi i).1 hh) (by omega))]
  rw [iz_len,decide_eq_true (by omega:(i:Int)<(S.length:Int)),cond_true,dC hi,bnd_some,elt_nat,hdev,bnd_some,zPI B d.Name (by omega),bnd_some,h6,yR hkl,bnd_some,h4,zRF hdev h2 (hr x (by rw [←h4]; exact List.getElem_mem hkl)) h5,bnd_some,zQ hi (by omega)]
  have hset:(wrL a.devices B.Images S i).set S[i] (zEf d x)=wrL a.devices B.Images S (i+1):=by
   rw [←zRb hS hi h1]
   unfold zLt
   rw [h3]
  show some (rG.next (eD a ((wrL a.devices B.Images S i).set S[i] (zEf d x)),((i+1:Nat):Int)))=_
  rw [hset]
 ·rw [hm]
  simp only
  rw [iz_len,decide_eq_false (by omega:¬ (S.length:Int)<(S.length:Int)),cond_false]
def zAr (L:List zB) (n:Nat):Nat:=zCE n fun i=>match L[i]? with | some d=>d.Active==1 | none=>false
theorem zTW {L:List zB} (h8:L.length≤8) (hb:∀ d∈L,bit d.Active) (m:Int × Int→Option (rG (Int × Int) Int))
  (hm:∀ s2,m s2=bif decide (s2.1<(L.length:Int)) then (bnd (elt L s2.1) fun x4=>bnd (zCH .u8 (IntKind.wrap .u8 x4.Active) s2.1) fun q1=>some (.next (IntKind.wrap .i64 (s2.1+1),iOr .u8 s2.2 q1))) else (some (.done s2.2))):
  yG m (0,0)=some ((zAr L L.length:Nat):Int):=by
 refine qM (m:=m) (fun i=>((i:Int),((zAr L i:Nat):Int))) L.length (fun i hi=>?_) ?_
 ·rw [hm]
  simp only
  rw [decide_eq_true (by omega:(i:Int)<(L.length:Int)),cond_true,yR hi,bnd_some]
  have hp:2 ^ i≤128:=by
   have:2 ^ i≤2 ^ 7:=Nat.pow_le_pow_right (by omega) (by omega)
   omega
  have hma:zAr L i<256:=zAI (by omega)
  have hsucc:zAr L (i+1)=if L[i].Active=1 then zAr L i|||2 ^ i else zAr L i:=by
   unfold zAr
   rw [zAD,List.getElem?_eq_getElem hi]
   simp
  rcases hb _ (List.getElem_mem hi) with h0 | h0
  ·rw [h0,show IntKind.wrap .u8 0=((0:Nat):Int) from by decide,zOp (by omega) (by omega),bnd_some,Nat.zero_mul,zDC hma (by decide),zQ hi (by omega),hsucc,h0]
   simp
  ·rw [h0,show IntKind.wrap .u8 1=((1:Nat):Int) from by decide,zOp (by omega) (by omega),bnd_some,Nat.one_mul,zDC hma (by omega),zQ hi (by omega),hsucc,h0]
   simp
 ·rw [hm]
  simp only
  rw [decide_eq_false (by omega:¬ (L.length:Int)<(L.length:Int)),cond_false]
theorem zFw {F:Nat} {G:Nat→Bool}:∀ {l:List Nat} {S:Nat},bC F G S l→l.Nodup∧∀ i∈l,S.testBit i=false
 | [],_,_=>⟨List.nodup_nil,fun i hi=>by cases hi⟩
 | j::l,S,h=>by
  obtain ⟨h1,h2⟩:=h
  obtain ⟨p1,p2,p3⟩:=mX h1
  obtain ⟨q1,q2⟩:=zFw h2
  refine ⟨List.nodup_cons.2 ⟨fun hj=>?_,q1⟩,fun i hi=>?_⟩
  ·have:=q2 j hj
   rw [zJk] at this
   simp at this
  ·rcases List.mem_cons.1 hi with rfl | hi
   ·exact p2
   ·have:=q2 i hi
    rw [zJk] at this
    exact (Bool.or_eq_false_iff.1 this).1
end Go.Proofs.YtplchdlgdjcojaaGreatDoor
end
section
namespace Go.Proofs.YtplchdlgdjcojaaGreatDoor
open Go
set_option linter.unusedVariables false
set_option linter.unusedSimpArgs false
theorem zKe {b:zX} (h:wL b=0) {i:Nat} (hi:i+1<b.Images.length):Op.bytesLess b.Images[i].Name.toList b.Images[i+1].Name.toList=true:=by
 have h0:=eR h
 unfold wL at h
 split at h
 ·cases h
 ·split at h
  ·rename_i e he
   exfalso
   obtain ⟨i,_,hi⟩:=List.exists_of_findSome?_eq_some he
   unfold lZ at hi
   subst h
   split at hi
   ·cases hi
   ·split at hi
    ·cases hi
    ·split at hi
     ·cases hi
     ·cases hi
  ·rename_i he
   have:=List.findSome?_eq_none_iff.1 he (i+1) (List.mem_range.2 hi)
   unfold lZ at this
   rw [List.getElem?_eq_getElem hi] at this
   simp only [Nat.add_sub_cancel] at this
   rw [List.getElem?_eq_getElem (by omega)] at this
   rw [if_neg (by rw [h0.2.2.1 _ (List.getElem_mem hi)]; simp)] at this
   simp only [Option.map_some,Option.getD_some] at this
   cases hb:Op.bytesLess b.Images[i].Name.toList b.Images[i+1].Name.toList
   ·simp [hb] at this
   ·rfl
theorem eZ {b:zX} (h:wL b=0):mI (b.Images.map (·.Name)):=by
 have hlt:∀ (j:Nat) (hj:j<b.Images.length) (i:Nat) (hi:i<j),Op.bytesLess (b.Images[i]'(Nat.lt_trans hi hj)).Name.toList b.Images[j].Name.toList=true:=by
  intro j
  induction j with
  | zero=>intro _ i hi; omega
  | succ j ih=>
   intro hj i hi
   by_cases he:i=j
   ·subst he; exact zKe h hj
   ·exact zDw _ _ _ (ih (by omega) i (by omega)) (zKe h hj)
 refine List.pairwise_iff_getElem.2 fun i j hi hj hij he=>?_
 rw [List.getElem_map,List.getElem_map] at he
 have:=hlt j (by simpa using hj) i hij
 rw [he,cG] at this
 cases this
theorem zNX {b:List Nat} (h:(oT b).2=0):wL (oT b).1=0:=by
 unfold oT at h ⊢
 split
 ·rename_i h1; rw [if_pos h1] at h; cases h
 ·rename_i h1
  rw [if_neg h1] at h
  split
  ·rename_i h2; rw [if_pos h2] at h; cases h
  ·rename_i h2
   rw [if_neg h2] at h
   split
   ·rename_i h3; rw [if_pos h3] at h; cases h
   ·rename_i h3
    rw [if_neg h3] at h
    generalize b.take (b.length - 4)=q at*
    unfold zLe at h ⊢
    split
    ·rename_i h4; rw [if_pos h4] at h; cases h
    ·rename_i h4
     rw [if_neg h4] at h
     cases hp:zDt q with
     | none=>rw [hp] at h; cases h
     | some x=>
      rw [hp] at h
      obtain ⟨imgs,needs,rest⟩:=x
      simp only at h ⊢
      split
      ·rename_i h5; rw [if_pos h5] at h; cases h
      ·rename_i h5
       rw [if_neg h5] at h
       split
       ·rename_i h6; rw [if_pos h6] at h; cases h
       ·rename_i h6
        rw [if_neg h6] at h
        split
        ·rename_i h7; rw [if_pos h7] at h; exact absurd h h7
        ·rename_i h7; exact Classical.byContradiction fun hh=>h7 hh
theorem zMY (L:List zB):(yT L).map (·.Name)=L.map (·.Name):=by simp [yT,List.map_map,Function.comp_def]
theorem zQt {L:List zB} {l:List zH} {N:List zT} {i:Nat} (h:bI ⟨yT L,uG (yT L) l,N⟩ i=true):∃ d x,L[i]? =some d∧zIZ l d.Name=some x:=by
 unfold bI at h
 simp only at h
 by_cases hi:i<L.length
 ·have h1:(yT L)[i]? =some ⟨L[i].Name,pL L[i]⟩:=by rw [yT,List.getElem?_map,List.getElem?_eq_getElem hi]; rfl
  have h2:(uG (yT L) l)[i]? =some ⟨L[i].Name,vOf l L[i].Name (pL L[i])⟩:=by rw [uG,List.getElem?_map,h1]; rfl
  rw [h1,h2] at h
  simp only [zOA] at h
  cases hx:zIZ l L[i].Name with
  | none=>rw [hx] at h; simp at h
  | some x=>exact ⟨L[i],x,List.getElem?_eq_getElem hi,hx⟩
 ·rw [List.getElem?_eq_none (by simp [yT]; omega)] at h
  cases h
def rB (a:zD) (B:zX):xE:=⟨yT a.devices,uG (yT a.devices) B.Images,a.needs⟩
theorem zKK {now:List zL} {N:List zT} {B:zX} (h:(kA now N B).2=0):kA now N B=(⟨now,uG now B.Images,N⟩,0):=by
 unfold kA at h ⊢
 split
 ·rename_i h1
  rw [if_pos h1] at h
  split
  ·rfl
  ·rename_i h2; rw [if_neg h2] at h; cases h
 ·rename_i h1; rw [if_neg h1] at h; cases h
theorem zPM (now:List zL) (N:List zT) (B:zX):(kA now N B).2=0∨(kA now N B).2=8∨(kA now N B).2=42:=by
 unfold kA
 split
 ·split
  ·exact .inl rfl
  ·exact .inr (.inr rfl)
 ·exact .inr (.inl rfl)
def oB (a:zD) (B:zX):List zB:=wrL a.devices B.Images (xX (yT a.devices).length (yS (rB a B))) (xX (yT a.devices).length (yS (rB a B))).length
theorem zLI (n F:Nat):(xX n F).Nodup:=List.Pairwise.filter _ List.nodup_range
theorem zHu {n F k:Nat}:k∈xX n F↔k<n∧F.testBit k=true:=by
 unfold xX
 rw [List.mem_filter,List.mem_range]
theorem zCp (a:zD) (B:zX) (i:Nat):(oB a B)[i]? =a.devices[i]?.map fun d=>if (yS (rB a B)).testBit i=true then zLt B.Images d else d:=by
 unfold oB
 rw [zBP,List.take_length]
 cases h:a.devices[i]? with
 | none=>rfl
 | some d=>
  have hi:=(List.getElem?_eq_some_iff.1 h).1
  have:(i∈xX (yT a.devices).length (yS (rB a B)))↔(yS (rB a B)).testBit i=true:=by
   rw [zHu]
   simp [yT,hi]
  simp only [Option.map_some,this]
@[simp] theorem com_len (a:zD) (B:zX):(oB a B).length=a.devices.length:=by simp [oB]
theorem zEG {a:zD} (hd:DL a.devices) {B:zX} (hv:wL B=0) {i:Nat} (hi:(yS (rB a B)).testBit i=true):∃ d x,a.devices[i]? =some d∧zIZ B.Images d.Name=some x∧x∈B.Images∧x.Name=d.Name∧(oB a B)[i]? =some (zEf d x)∧Two (zEf d x):=by
 rw [zJV] at hi
 obtain ⟨h1,h2⟩:=Bool.and_eq_true_iff.1 hi
 obtain ⟨d,x,h3,h4⟩:=zQt h2
 obtain ⟨k,hk,h5,h6,_⟩:=zKT (eZ hv) h4
 have hx:x∈B.Images:=by rw [←h5]; exact List.getElem_mem hk
 refine ⟨d,x,h3,h4,hx,h6,?_,zPC (hd.rdy _ (List.mem_of_getElem? h3)) ((eR hv).2.2.1 x hx) h6⟩
 rw [zCp,h3,Option.map_some,zJV,hi,if_pos rfl]
 unfold zLt
 rw [h4]
theorem zEJ {a:zD} (hd:DL a.devices) {B:zX} (hv:wL B=0):∀ d∈oB a B,Rdy d:=by
 intro d hm
 obtain ⟨i,hi,he⟩:=List.mem_iff_getElem.1 hm
 have h1:(oB a B)[i]? =some d:=by rw [List.getElem?_eq_getElem hi,he]
 by_cases hb:(yS (rB a B)).testBit i=true
 ·obtain ⟨_,_,_,_,_,_,h2,h3⟩:=zEG hd hv hb
  rw [h1] at h2
  injection h2 with h2
  rw [h2]
  exact h3.1
 ·rw [zCp] at h1
  obtain ⟨d0,h4,h5⟩:=Option.map_eq_some_iff.1 h1
  rw [if_neg hb] at h5
  rw [←h5]
  exact hd.rdy _ (List.mem_of_getElem? h4)
theorem zJe {a:zD} (hd:DL a.devices) {B:zX} (hv:wL B=0) (hp:sW (rB a B)=0) {O:List Nat} (hO:iV (rB a B)=some O):mD (oB a B) O (zAr (oB a B) (oB a B).length):=by
 have hpath:=zBA hO
 have h8:=hd.le
 refine ⟨(zFw hpath).1,by rw [com_len]; exact h8,fun i hi=>?_,fun i d h=>?_,zAI (by rw [com_len]; exact h8),zEJ hd hv,zMQ hp hpath⟩
 ·obtain ⟨d,x,_,_,_,_,h1,h2⟩:=zEG hd hv (zDB hpath i hi)
  exact ⟨_,h1,h2⟩
 ·have hi:=(List.getElem?_eq_some_iff.1 h).1
  have hbit:=(zEJ hd hv d (List.mem_of_getElem? h)).vd.ba
  unfold zAr
  rw [zKU,h,decide_eq_true hi,Bool.true_and]
  rcases hbit with h0 | h0 <;> simp [h0]
theorem zCK {a:zD} (hd:DL a.devices) (hst:a.store=true) (hN:qN a.needs=true) {bb:List Nat} (hb:xU bb) (h1:1≤bb.length) (h2:bb.length≤8192) (s:zC) (d:zA):
  (∃ e,e≠0∧yZ (dlA a (iz bb) (wM bb.length)) s d=some (dlA a (iz bb) (wM bb.length),s,d,e)∧
   ((oT bb).2=e∨(oT bb).2=0∧((kA (yT a.devices) a.needs (oT bb).1).2=e∧(e=8∨e=42)∨(kA (yT a.devices) a.needs (oT bb).1).2=0∧uW (rB a (oT bb).1)=some ([],e))))∨
  ((oT bb).2=0∧(kA (yT a.devices) a.needs (oT bb).1).2=0∧sW (rB a (oT bb).1)=0∧iV (rB a (oT bb).1)=some []∧
   yZ (dlA a (iz bb) (wM bb.length)) s d=some (⟨a.store,a.devices,a.needs,0,zPG,a.before,a.order⟩,s,d,0))∨
  ((oT bb).2=0∧(kA (yT a.devices) a.needs (oT bb).1).2=0∧sW (rB a (oT bb).1)=0∧∃ O,iV (rB a (oT bb).1)=some O∧O≠ []∧
   yZ (dlA a (iz bb) (wM bb.length)) s d=bnd (zS s [⟨32,2::(zAr (oB a (oT bb).1) (oB a (oT bb).1).length:Int)::iz O,false⟩] d) fun r=>
    if r.2.2=0 then some (agC (oB a (oT bb).1) a.needs O (zAr (oB a (oT bb).1) (oB a (oT bb).1).length) 0 2,r.1,r.2.1,0)
    else some (⟨true,oB a (oT bb).1,a.needs,1,dl (iz bb) (wM bb.length),(zAr (oB a (oT bb).1) (oB a (oT bb).1).length:Int),iz O⟩,r.1,r.2.1,r.2.2)):=by
 have hbl:(iz bb).length=bb.length:=iz_len bb
 have hlc:wP (dl (iz bb) (wM bb.length))=some true:=by
  rw [←hbl,zHm (by omega) (by omega) (Nat.le_refl _),decide_eq_true rfl]
 have hby:sL (dl (iz bb) (wM bb.length))=some (iz bb,0):=by
  have:=zVm (b:=iz bb) (by omega) (by omega)
  rw [hbl] at this
  exact this
 have hd8:=hd.le
 have hNl:a.needs.length≤16:=of_decide_eq_true (Bool.and_eq_true_iff.1 hN).1
 have pre:∀ (X:Option (zD × zC × zA × Int)),True:=fun _=>trivial
 unfold yZ
 have hc1:(bnd ((bif ((dlA a (iz bb) (wM bb.length)).phase != 1) then (some true) else (bnd (wP (dlA a (iz bb) (wM bb.length)).load) fun r1=>some (!r1)):Option Bool)) fun o1=>some o1)=some false:=by
  show (bnd (bnd (wP (dl (iz bb) (wM bb.length))) fun r1=>some (!r1)) fun o1=>some o1)=_
  rw [hlc]
  rfl
 rw [zUr] at hc1
 rw [hc1,bnd_some,cond_false]
 show (∃ e,e≠0∧(bnd (sL (dl (iz bb) (wM bb.length))) _)=_∧_)∨_
 rw [show (dlA a (iz bb) (wM bb.length)).load=dl (iz bb) (wM bb.length) from rfl,hby]
 simp only [bnd_some,bne_self_eq_false,cond_false]
 rw [zLq hb (by omega)]
 simp only [bnd_some]
 by_cases he:(oT bb).2=0
 case neg=>
  refine .inl ⟨(oT bb).2,he,?_, .inl rfl⟩
  rw [xB (by simpa using he)]
 have hv:=zNX he
 rw [yP (by simpa using he)]
 generalize hB:(oT bb).1=B at*
 obtain ⟨v1,v2,v3,v4,v5⟩:=eR hv
 have hpl:tW (dlA a (iz bb) (wM bb.length)) B=some (kA (yT a.devices) a.needs B):=zUk (a:=dlA a (iz bb) (wM bb.length)) hd8 (by show mI ((yT a.devices).map (·.Name)); rw [zMY]; exact zFC hd.names) hNl v2 v4 (eZ hv)
 rw [hpl,bnd_some]
 by_cases hp:(kA (yT a.devices) a.needs B).2=0
 case neg=>
  refine .inl ⟨(kA (yT a.devices) a.needs B).2,hp,?_, .inr ⟨he, .inl ⟨rfl,?_⟩⟩⟩
  ·rw [xB (by simpa using hp)]
  ·rcases zPM (yT a.devices) a.needs B with h | h | h
   ·exact absurd h hp
   ·exact .inl h
   ·exact .inr h
 rw [yP (by simpa using hp),zKK hp]
 show (∃ e,e≠0∧(bnd (uW (rB a B)) _)=_∧_)∨_
 rw [show (⟨yT a.devices,uG (yT a.devices) B.Images,a.needs⟩:xE)=rB a B from rfl]
 rw [zLL]
 by_cases hvn:sW (rB a B)=0
 case neg=>
  rw [if_neg hvn]
  have hne:((sW (rB a B):Nat):Int)≠0:=by omega
  refine .inl ⟨(sW (rB a B):Int),hne,?_, .inr ⟨he, .inr ⟨rfl,rfl⟩⟩⟩
  rw [bnd_some,xB (by simpa using hne)]
 rw [if_pos hvn]
 cases hO:iV (rB a B) with
 | none=>
  refine .inl ⟨41,by decide,?_, .inr ⟨he, .inr ⟨rfl,rfl⟩⟩⟩
  rw [bnd_some]
  rfl
 | some O=>
  simp only [bnd_some,bne_self_eq_false,cond_false]
  by_cases hO0:O= []
  ·subst hO0
   refine .inr (.inl ⟨he,trivial,hvn,rfl,?_⟩)
   rfl
  refine .inr (.inr ⟨he,trivial,hvn,O,rfl,hO0,?_⟩)
  have hOl:0<O.length:=List.length_pos_iff.2 hO0
  rw [yP (by simp; omega),zQV,if_pos hvn,bnd_some]
  have hord:=zJe hd hv hvn hO
  have hpn:(rB a B).Now.length=(yT a.devices).length:=rfl
  have hsl:(xX (yT a.devices).length (yS (rB a B))).length≤8:=Nat.le_trans (List.length_filter_le _ _) (by simp [yT]; exact hd8)
  rw [hpn]
  refine yD (zPR (a:=dlA a (iz bb) (wM bb.length)) (B:=B) v2 (eZ hv) v3 (zLI _ _) (by omega) (fun k hk=>?_) (fun a' e=>(a',s,d,e)) _ (fun _=>rfl)) ?_
  ·obtain ⟨dd,x,q1,q2,_⟩:=zEG hd hv (zHu.1 hk).2
   exact ⟨dd,x,q1,hd.rdy _ (List.mem_of_getElem? q1),q2⟩
  rw [retOr_inr]
  have hcl:eD (dlA a (iz bb) (wM bb.length)) (wrL (dlA a (iz bb) (wM bb.length)).devices B.Images (xX (yT a.devices).length (yS (rB a B))) (xX (yT a.devices).length (yS (rB a B))).length)=eD (dlA a (iz bb) (wM bb.length)) (oB a B):=rfl
  rw [hcl]
  refine yD (zTW (L:=oB a B) (by rw [com_len]; exact hd8) (fun dd hdd=>(zEJ hd hv dd hdd).vd.ba) _ (fun _=>rfl)) ?_
  rw [show (2:Int)=((2:Nat):Int) from rfl,zFb (O:=O) rfl hord.len (fun i hi=>by have:=hord.lt hi; rw [com_len] at this; omega) (by decide),bnd_some]
  show bnd (fQ a.store) _=_
  rw [hst,show fQ true=some true from rfl,bnd_some,zRv]
  show bnd (zS s [⟨32,2::(zAr (oB a B) (oB a B).length:Int)::iz O,false⟩] d) _=_
  cases zS s [⟨32,2::(zAr (oB a B) (oB a B).length:Int)::iz O,false⟩] d with
  | none=>rfl
  | some r=>
   simp only [bnd_some]
   by_cases h1:r.2.2=0
   ·rw [if_pos h1,yP (by simpa using h1)]
    unfold agC
    rw [zGC,←hst]
    rfl
   ·rw [if_neg h1,xB (by simpa using h1),←hst]
    rfl
end Go.Proofs.YtplchdlgdjcojaaGreatDoor
end
section
namespace Go.Proofs.YtplchdlgdjcojaaGreatDoor
open Go
set_option linter.unusedVariables false
set_option linter.unusedSimpArgs false
def jK:Option (List Int)→List zF
 | none=> []
 | some x=> [⟨32,x,false⟩]
structure StU (d:zA) (s:zC) (v:Option (List Int)) (g:Nat):Prop where
 sto:Sto d s 0
 left:d.left=0
 K:(openF d 0).K=jK v
 gen:(openF d 0).gen≤g
theorem zGo (v:Option (List Int)) (x:List Int):wR (jK v) [⟨32,x,false⟩]=jK (some x):=by
 cases v <;> rfl
theorem zKI (v:Option (List Int)):wR (jK v) [⟨32, [],true⟩]=jK none:=by
 cases v <;> rfl
theorem zYb {d:zA} {s:zC} {v:Option (List Int)} {g:Nat} (h:StU d s v g) (hg:g<2147483648) {x:List Int} (hx:rng x) (h28:x.length≤28):∃ s' d',zS s [⟨32,x,false⟩] d=some (s',d',0)∧StU d' s' (some x) (g+1):=by
 have hp:okP [⟨32,x,false⟩]:=⟨fun z hz=>by
  rw [List.mem_singleton] at hz
  subst hz
  exact ⟨⟨(by decide:(0:Int)≤32),(by decide:(32:Int)≤255)⟩,hx,h28,fun h=>by cases h⟩,List.pairwise_singleton _ _⟩
 have hk:wR (openF d 0).K [⟨32,x,false⟩]=jK (some x):=by rw [h.K,zGo]
 have hg':=h.gen
 obtain ⟨r,h1,h2,h3,h4,h5,_,h6⟩:=h.sto.sure h.left hp (by simp) (by rw [hk]; simp [jK]) (by omega) (fun _=>by rw [hk]; exact Nat.le_refl 1)
 rw [hk] at h4
 obtain ⟨s',d',e⟩:=r
 simp only at h2
 subst h2
 exact ⟨s',d',h1,h3,h6,h4,by simp only at h5; omega⟩
theorem zXV {d:zA} {s:zC} {v:Option (List Int)} {g:Nat} (h:StU d s v g) (hg:g<2147483648):∃ s' d',zS s [⟨32, [],true⟩] d=some (s',d',0)∧StU d' s' none (g+1):=by
 have hp:okP [⟨32, [],true⟩]:=⟨fun z hz=>by
  rw [List.mem_singleton] at hz
  subst hz
  exact ⟨⟨(by decide:(0:Int)≤32),(by decide:(32:Int)≤255)⟩,(fun x (hx:x∈ [])=>(List.not_mem_nil hx).elim),Nat.zero_le _,fun _=>rfl⟩,List.pairwise_singleton _ _⟩
 have hk:wR (openF d 0).K [⟨32, [],true⟩]=jK none:=by rw [h.K,zKI]
 have hg':=h.gen
 obtain ⟨r,h1,h2,h3,h4,h5,_,h6⟩:=h.sto.sure h.left hp (by simp) (by rw [hk]; simp [jK]) (by omega) (fun _=>by rw [hk]; decide)
 rw [hk] at h4
 obtain ⟨s',d',e⟩:=r
 simp only at h2
 subst h2
 exact ⟨s',d',h1,h3,h6,h4,by simp only at h5; omega⟩
theorem zOr:lF 2 1024=some (some (zDE 2 1024),0)∧∃ s,xI (zDE 2 1024) 0=some (zDE 2 1024,some s,0)∧StU (zDE 2 1024) s none 0:=by
 have hok:=zUA (n:=2) (m:=1024) (by omega) (by omega)
 obtain ⟨s,o1,o2⟩:=zBJ (f:=0) hok rfl (by show (1024:Int)≤1024; omega) (by show 0+1<(List.replicate 2 (0:Int)).length; simp)
 have h0:(openF (zDE 2 1024) 0).K= []:=by rw [zHv (by omega) (by omega)]; rfl
 have g0:(openF (zDE 2 1024) 0).gen=0:=by rw [zHv (by omega) (by omega)]; rfl
 exact ⟨zWU (n:=2) (m:=1024) (by omega) (by omega),s,o1,o2,rfl,h0,by omega⟩
theorem zQS {m:Nat} (hm:m<256) {O:List Nat} (hO:∀ i∈O,i<8) {ph:Int} (hp:0≤ph∧ph≤255):rng (ph::(m:Int)::iz O):=by
 intro x hx
 rcases List.mem_cons.1 hx with h | h
 ·subst h; exact hp
 rcases List.mem_cons.1 h with h | h
 ·subst h; omega
 ·obtain ⟨i,hi,rfl⟩:=List.mem_map.1 h
  have:=hO i hi
  show 0≤(i:Int)∧(i:Int)≤255
  omega
theorem zSq {L:List zB} {N:List zT} {O:List Nat} {m c:Nat} {ph:Int} {s:zC} {d:zA} {v:Option (List Int)} {g:Nat} (h:StU d s v g) (hg:g<2147483648):
  ∃ s' d',zBx L N O m c ph s d=some (agE L N O m c,s',d',0)∧StU d' s' none (g+1):=by
 obtain ⟨s',d',h1,h2⟩:=zXV h hg
 refine ⟨s',d',?_,h2⟩
 unfold zBx
 rw [h1,bnd_some]
 rfl
def cQ (ph:Int) (m:Nat) (O:List Nat):List Int:=ph::(m:Int)::iz O
theorem mD.rngJ {L:List zB} {O:List Nat} {m:Nat} (h:mD L O m) {ph:Int} (hp:0≤ph∧ph≤255):rng (cQ ph m O)∧(cQ ph m O).length≤28:=⟨zQS h.small (fun i hi=>by have:=h.lt hi; have:=h.le; omega) hp,by have:=h.len; simp [cQ,iz]; omega⟩
end Go.Proofs.YtplchdlgdjcojaaGreatDoor
end
section
namespace Go.Proofs.YtplchdlgdjcojaaGreatDoor
open Go
set_option linter.unusedVariables false
set_option linter.unusedSimpArgs false
theorem zFP {d:zB} (h:Rdy d) (h0:d.Active=0):pL d=d.Slots.e0.Image.Version:=by
 unfold pL
 rw [(sM d).2 h.vd,cond_true,h.run,h0]
 rfl
end Go.Proofs.YtplchdlgdjcojaaGreatDoor
end
section
namespace Go.Proofs.YtplchdlgdjcojaaGreatDoor
open Go
set_option linter.unusedVariables false
set_option linter.unusedSimpArgs false
def gU:zX:=⟨[⟨⟨#[98,105,111,115]⟩,⟨2,0,0⟩, [2]⟩,⟨⟨#[109,101]⟩,⟨2,0,0⟩, [2]⟩], []⟩
def oG:List zT:= [⟨⟨#[98,105,111,115]⟩,⟨2,0,0⟩,⟨#[109,101]⟩,⟨2,0,0⟩⟩]
def iO:List zB:= [(zCO ⟨⟨#[98,105,111,115]⟩,⟨1,0,0⟩, [1]⟩).1,(zCO ⟨⟨#[109,101]⟩,⟨1,0,0⟩, [1]⟩).1]
def bP:List zL:= [⟨⟨#[98,105,111,115]⟩,⟨1,0,0⟩⟩,⟨⟨#[109,101]⟩,⟨1,0,0⟩⟩]
theorem cS:wL gU=0:=by decide+kernel
theorem zEW:zGU gU:=by
 intro x hx
 simp only [gU,List.mem_cons,List.not_mem_nil,or_false] at hx
 rcases hx with rfl | rfl <;> exact zIR (by omega)
theorem zFa:zSP iO:=by
 have h1:=zMz (n:=⟨#[98,105,111,115]⟩) (v:=1) (x:=1) (by decide+kernel) (by omega)
 have h2:=zMz (n:=⟨#[109,101]⟩) (v:=1) (x:=1) (by decide+kernel) (by omega)
 refine ⟨⟨by simp [iO],by simp [iO],?_,fun d hd=>?_⟩,fun d hd=>?_⟩
 ·unfold iO
  rw [List.map_cons,List.map_cons,List.map_nil]
  rw [h1.2.2,h2.2.2]
  decide+kernel
 ·simp only [iO,List.mem_cons,List.not_mem_nil,or_false] at hd
  rcases hd with rfl | rfl
  ·exact h1.1
  ·exact h2.1
 ·simp only [iO,List.mem_cons,List.not_mem_nil,or_false] at hd
  rcases hd with rfl | rfl
  ·exact h1.2.1
  ·exact h2.2.1
theorem zIa:yT iO=bP:=by
 have h1:=zFa.1.rdy
 have h2:=zFa.2
 have r1:wA ⟨⟨#[98,105,111,115]⟩,⟨1,0,0⟩, [1]⟩=true:=by decide+kernel
 have r2:wA ⟨⟨#[109,101]⟩,⟨1,0,0⟩, [1]⟩=true:=by decide+kernel
 unfold yT iO
 rw [List.map_cons,List.map_cons,List.map_nil]
 rw [zFP (h1 _ (by simp [iO])) (h2 _ (by simp [iO])),zFP (h1 _ (by simp [iO])) (h2 _ (by simp [iO]))]
 unfold zCO
 rw [r1,r2]
 rfl
theorem zXx:kA bP oG gU=(⟨bP,uG bP gU.Images,oG⟩,0):=zKK (by decide+kernel)
theorem zVH:sW ⟨bP,uG bP gU.Images,oG⟩=0:=by decide+kernel
theorem zWA:iV ⟨bP,uG bP gU.Images,oG⟩=some [1,0]:=by decide+kernel
theorem zYc:(kQ gU).length=44:=by decide+kernel
theorem zTG:jL=some true:=by
 obtain ⟨n1,s,n2,hS⟩:=zOr
 have hL:=zFa
 have hN:qN oG=true:=by decide+kernel
 have hop:=zKE hL.1 (N:=oG) hN hS.sto (by rw [hS.K]; rfl)
 have hE:tU gU=some (iz (kQ gU),0):=by rw [zKz,zOz cS,zEE cS zEW]
 have hl:=zYc
 have hlt:xU (kQ gU):=by
  obtain ⟨b,q1,q2,q3⟩:=zIy zEW
  have:=zOx cS zEW
  rw [zOz cS,zEE cS zEW] at q3
  have hz:kQ gU=b:=by
   have hinj:∀ (x y:List Nat),iz x=iz y→x=y:=fun x y h=>by have:=congrArg (List.map Int.toNat) h; simpa [iz,List.map_map,Function.comp_def] using this
   exact hinj _ _ q3
  rw [hz]
  exact q1
 have hdec:oT (kQ gU)=(gU,0):=zOx cS zEW
 generalize kQ gU=bb at*
 unfold jL
 rw [n1,bnd_some]
 generalize zDE 2 1024=D at*
 show bnd (xI D 0) _=_
 rw [n2,bnd_some]
 refine yD (zLF (by simp [small])) ?_
 refine yD (zLF (by simp [small])) ?_
 show bnd (wS s iO oG D) _=_
 rw [hop,bnd_some]
 show bnd (tU gU) _=_
 rw [hE,bnd_some]
 show bnd (bif decide (((iz bb).length:Int)<1) then (some true) else (some (decide (((iz bb).length:Int)>128)))) _=_
 have hz:(iz bb).length=44:=by rw [iz_len,hl]
 rw [decide_eq_false (by omega),cond_false,bnd_some,decide_eq_false (by omega),cond_false]
 show bnd (xG (ag0 iO oG) ((iz bb).length:Int) 64) _=_
 rw [zKp (.inl rfl) (by omega) (by omega),bnd_some]
 have hc1:wM (iz bb).length=1:=by rw [hz]; rfl
 have hsg:=zNB (b:=iz bb) (k:=0) (by omega) (by omega)
 refine yD hsg ?_
 refine yD (zNz (ag0 iO oG) (b:=iz bb) (k:=0) (by omega) (by omega) (by omega)) ?_
 rw [decide_eq_false (by omega:¬ ((iz bb).length:Int)>64),cond_false,bnd_some]
 have hcm:=zCK (a:=ag0 iO oG) hL.1 rfl hN hlt (by omega) (by omega) s D
 rw [hdec] at hcm
 have hcb:wM bb.length=0+1:=by rw [hl]; rfl
 rw [hcb] at hcm
 have hpo:rB (ag0 iO oG) gU=⟨bP,uG bP gU.Images,oG⟩:=by
  show (⟨yT iO,uG (yT iO) gU.Images,oG⟩:xE)=_
  rw [zIa]
 have hpf:kA (yT (ag0 iO oG).devices) (ag0 iO oG).needs gU=(⟨bP,uG bP gU.Images,oG⟩,0):=by
  show kA (yT iO) oG gU=_
  rw [zIa,zXx]
 have hv:=zVH
 have ho:=zWA
 rw [←hpo] at hv ho
 simp only [hpf] at hcm
 rcases hcm with ⟨e,he,q1,q2⟩ | ⟨q1,q2,q3,q4,q5⟩ | ⟨q1,q2,q3,O,q4,q5,q6⟩
 ·exfalso
  rcases q2 with q2 | ⟨_,⟨q2,_⟩ | ⟨_,q2⟩⟩
  ·exact he q2.symm
  ·exact he q2.symm
  ·rw [zLL,if_pos hv,ho] at q2
   injection q2 with q2
   injection q2 with q2 q3
   cases q2
 ·rw [ho] at q4
  cases q4
 ·rw [ho] at q4
  obtain rfl: [1,0]=O:=Option.some.inj q4
  have hord:=zJe (a:=ag0 iO oG) hL.1 cS hv ho
  generalize hLL:oB (ag0 iO oG) gU=LL at*
  obtain ⟨w1,w2⟩:=hord.rngJ (ph:=2) (by omega)
  obtain ⟨s',d',p1,p2⟩:=zYb hS (by omega) w1 w2
  unfold cQ at p1
  rw [p1,bnd_some] at q6
  have q7:yZ (dlA (ag0 iO oG) (iz bb) (0+1)) s D=some (agC LL oG [1,0] (zAr LL LL.length) 0 2,s',d',0):=q6
  refine yD q7 ?_
  have s1:=zGm (N:=oG) hord (c:=0) (by decide) s' d'
  rw [if_pos (by decide)] at s1
  refine yD s1 ?_
  have s2:=zGm (N:=oG) hord (c:=0+1) (by decide) s' d'
  rw [if_neg (by decide)] at s2
  obtain ⟨s3,d3,t1,t2⟩:=zSq (L:=LL) (N:=oG) (O:= [1,0]) (m:=zAr LL LL.length) (c:=0+1+1) (ph:=2) p2 (by omega)
  rw [t1,bnd_some] at s2
  refine yD s2 ?_
  rfl
end Go.Proofs.YtplchdlgdjcojaaGreatDoor
end
section
namespace Go.Proofs.YtplchdlgdjcojaaGreatDoor
open Go
set_option linter.unusedVariables false
set_option linter.unusedSimpArgs false
theorem zLn {l:List Int} (hl:l.length≤1000) (v:Int):uJ l v=some (decide (v∈l)):=by
 unfold uJ
 suffices h:∃ r,tM l v=some r∧decide (r≥0)=decide (v∈l) by
  obtain ⟨r,h1,h2⟩:=h
  rw [h1,bnd_some,h2]
 unfold tM
 rcases bG l (fun x=>v==x) (fun i _=>(.inl (i:Int):Int ⊕ Unit)) (fun i=>match l[i]? with | some x=>if (v==x)=true then some (.inl (i:Int)) else none | none=>none) (fun i hi=>by rw [List.getElem?_eq_getElem hi]) with ⟨i,hi,h1,h2,h3⟩ | ⟨h1,h2,h3⟩
 ·refine ⟨(i:Int),?_,?_⟩
  ·refine rY (fun (i:Nat)=>(i:Int)) l.length (fun i=>match l[i]? with | some x=>if (v==x)=true then some (.inl (i:Int)) else none | none=>none) (.inr ()) rfl (fun i hi=>?_) ?_ (by rw [h3]; rfl)
   ·have d0:decide ((i:Int)<(l.length:Int))=true:=by simp; omega
    simp only [d0,cond_true,yR hi,bnd_some,zQ hi (by omega),List.getElem?_eq_getElem hi]
    cases (v==l[i]) <;> rfl
   ·have d0:decide ((l.length:Int)<(l.length:Int))=false:=by simp
    simp only [d0,cond_false]
  ·have e1:v=l[i]:=eq_of_beq h1
   have hmem:v∈l:=by rw [e1]; exact List.getElem_mem hi
   simp [hmem]
 ·refine ⟨-1,?_,?_⟩
  ·refine rY (fun (i:Nat)=>(i:Int)) l.length (fun i=>match l[i]? with | some x=>if (v==x)=true then some (.inl (i:Int)) else none | none=>none) (.inr ()) rfl (fun i hi=>?_) ?_ (by rw [h3]; rfl)
   ·have d0:decide ((i:Int)<(l.length:Int))=true:=by simp; omega
    simp only [d0,cond_true,yR hi,bnd_some,zQ hi (by omega),List.getElem?_eq_getElem hi]
    cases (v==l[i]) <;> rfl
   ·have d0:decide ((l.length:Int)<(l.length:Int))=false:=by simp
    simp only [d0,cond_false]
  ·have hmem:v∉l:=fun hv=>by
    have:=h2 v hv
    simp at this
   simp [hmem]
theorem zQh (L:List zB) (O:List Nat) (c:Nat):(stL L O c).map (·.Name)=L.map (·.Name):=by
 refine List.ext_getElem? fun i=>?_
 rw [List.getElem?_map,List.getElem?_map,nG]
 cases L[i]? with
 | none=>rfl
 | some d=>
  simp only [Option.map_some]
  split <;> rfl
theorem zTu {L:List zB} {O:List Nat} {m:Nat} (h:mD L O m) (c:Nat):∀ d∈stL L O c,Rdy d:=by
 intro d hd
 obtain ⟨i,hi⟩:=List.getElem?_of_mem hd
 rw [nG] at hi
 obtain ⟨e,he,hde⟩:=Option.map_eq_some_iff.1 hi
 split at hde
 ·rename_i hm
  obtain ⟨e',h1,h2⟩:=h.mem i (List.mem_of_mem_take hm)
  rw [he] at h1
  injection h1 with h1
  subst h1; subst hde
  exact (zGw h2).1
 ·subst hde
  exact h.rdy _ (List.mem_of_getElem? he)
theorem zVM {L:List zB} {O:List Nat} {m:Nat} (hL:DL L) (h:mD L O m) (c:Nat):DL (stL L O c):=
 ⟨by rw [stL_len]; exact hL.pos,by rw [stL_len]; exact hL.le,by rw [zQh]; exact hL.names,zTu h c⟩
theorem zUG {L:List zB} {N:List zT} {O:List Nat} (hnd:O.Nodup) (hO:∀ i∈O,i<L.length) (h8:L.length≤8) (hl:O.length≤8) {m:Nat} (hm:m<256) {ph:Int} (hph:ph=2∨ph=3):
  uL (ag0 L N) (cQ ph m O)=some (⟨true,L,N,ph,zPG,(m:Int),iz O⟩,true):=by
 unfold uL
 have hjl:(cQ ph m O).length=O.length+2:=by simp [cQ]
 have hw:IntKind.wrap .i64 ph=ph:=yN (by omega) (by omega)
 have e0:elt (cQ ph m O) 0=some ph:=rfl
 have e1:elt (cQ ph m O) 1=some (m:Int):=rfl
 have es:sub (cQ ph m O) 2 ((cQ ph m O).length:Int)=some (iz O):=by
  unfold sub
  rw [if_pos ⟨by omega,by omega,by omega⟩]
  simp only [Int.toNat_natCast,List.take_length]
  rfl
 rw [decide_eq_false (by omega),cond_false,e0,bnd_some,e1,bnd_some,hw,show (!(ph==2||(ph==3||false)))=false by rcases hph with rfl | rfl <;> rfl,cond_false,es,bnd_some]
 refine xS (fun i=>((i:Int),iz (O.take i))) O.length (.inr (iz O)) rfl (fun i hi=>?_) ?_ rfl
 ·have hlt:=hO _ (List.getElem_mem hi)
  have hn:¬ ((O[i]:Nat):Int)∈iz (O.take i):=fun hh=>by
   obtain ⟨x,hx,e⟩:=List.mem_map.1 hh
   have:x=O[i]:=by exact Int.ofNat.inj e
   rw [this] at hx
   exact absurd ((wY hnd hi i).1 hx) (by omega)
  rw [iz_len,decide_eq_true (by omega:(i:Int)<(O.length:Int)),cond_true,dC hi,bnd_some,yX (by omega)]
  rw [decide_eq_false (by show ¬ ((O[i]:Nat):Int)≥(L.length:Int); omega),cond_false,zLn (by simp; omega),bnd_some,decide_eq_false hn,bnd_some,cond_false,uQ (by simp; omega) (by simp; omega),bnd_some,zQ hi (by omega),yY hi,←lT]
  rfl
 ·simp only
  rw [iz_len,decide_eq_false (by omega:¬ (O.length:Int)<(O.length:Int)),cond_false,List.take_length]
theorem StU.again {d:zA} {s:zC} {v:Option (List Int)} {g:Nat} (h:StU d s v g):∃ s',xI d 0=some (d,some s',0)∧StU d s' v g:=by
 obtain ⟨s',h1,h2⟩:=zBJ (f:=0) h.sto.ok h.sto.down h.sto.size h.sto.first
 exact ⟨s',h1,h2,h.left,h.K,h.gen⟩
theorem zOU (l:List zH) (d:zB):(zLt l d).Name=d.Name:=by
 unfold zLt
 cases zIZ l d.Name <;> rfl
theorem zPk (a:zD) (B:zX):(oB a B).map (·.Name)=a.devices.map (·.Name):=by
 refine List.ext_getElem? fun i=>?_
 rw [List.getElem?_map,List.getElem?_map,zCp]
 cases a.devices[i]? with
 | none=>rfl
 | some d=>
  simp only [Option.map_some]
  split
  ·rw [zOU]
  ·rfl
theorem zVk {a:zD} (hd:DL a.devices) {B:zX} (hv:wL B=0):DL (oB a B):=
 ⟨by rw [com_len]; exact hd.pos,by rw [com_len]; exact hd.le,by rw [zPk]; exact hd.names,zEJ hd hv⟩
theorem mD.few {L:List zB} {O:List Nat} {m:Nat} (h:mD L O m):O.length≤L.length:=by
 have:=h.nd.length_le_of_subset (l₂:=List.range L.length) (fun i hi=>List.mem_range.2 (h.lt hi))
 simpa using this
theorem zMK {a:zD} (h:DL a.devices):wK a=some a.devices:=
 zUu (by have:=h.le; omega) fun d hd=>(h.rdy d hd).sm
end Go.Proofs.YtplchdlgdjcojaaGreatDoor
end
section
namespace Go.Proofs.YtplchdlgdjcojaaGreatDoor
open Go
set_option linter.unusedVariables false
set_option linter.unusedSimpArgs false
theorem zIV {d:zB} (h:Rdy d):pL d=(uM d.Slots d.Running).Image.Version:=by
 unfold pL
 rw [(sM d).2 h.vd,cond_true]
theorem zME (s:rA yB) {k:Int} (h:bit k) (y:yB):uM (mW s (1 - k) y) k=uM s k:=by
 rcases h with rfl | rfl <;> rfl
theorem zQd (s:rA yB) {k:Int} (h:bit k) (y:yB):uM (mW s (1 - k) y) (1 - k)=y:=by
 rcases h with rfl | rfl <;> rfl
theorem zKy {a:zD} (hd:DL a.devices) {B:zX} (hv:wL B=0) {O:List Nat} (hO:iV (rB a B)=some O) (c k:Nat):
  (yT (stL (oB a B) O c))[k]? =if k∈O.take c then (uG (yT a.devices) B.Images)[k]? else (yT a.devices)[k]?:=by
 have h1:(yT (stL (oB a B) O c))[k]? =((stL (oB a B) O c)[k]?).map fun d=>⟨d.Name,pL d⟩:=by rw [yT,List.getElem?_map]
 have h2:(yT a.devices)[k]? =(a.devices[k]?).map fun d=>⟨d.Name,pL d⟩:=by rw [yT,List.getElem?_map]
 have h3:(uG (yT a.devices) B.Images)[k]? =(a.devices[k]?).map fun d=>⟨d.Name,vOf B.Images d.Name (pL d)⟩:=by
  rw [uG,List.getElem?_map,h2,Option.map_map]
  rfl
 rw [h1,h2,h3]
 have hpath:=zBA hO
 cases hdk:a.devices[k]? with
 | none=>
  have:(stL (oB a B) O c)[k]? =none:=by rw [nG,zCp,hdk]; rfl
  rw [this]
  simp
 | some d=>
  have hr:=hd.rdy d (List.mem_of_getElem? hdk)
  by_cases hb:(yS (rB a B)).testBit k=true
  ·obtain ⟨d1,x,e1,e2,e3,e4,e5,e6⟩:=zEG hd hv hb
   rw [hdk] at e1
   injection e1 with e1
   subst e1
   have hbit:bit d.Running:=hr.vd.br
   rw [nG,e5,Option.map_some,Option.map_some,Option.map_some,Option.map_some]
   by_cases hk:k∈O.take c
   ·rw [if_pos hk,if_pos hk,zIV (zGw e6).1,zOA,e2]
    show some (⟨d.Name,(uM (mW d.Slots (1 - d.Running) ⟨x,mU x⟩) (1 - d.Active)).Image.Version⟩:zL)=_
    rw [←hr.run,zQd _ hbit]
   ·rw [if_neg hk,if_neg hk,zIV e6.1,zIV hr]
    show some (⟨d.Name,(uM (mW d.Slots (1 - d.Running) ⟨x,mU x⟩) d.Running).Image.Version⟩:zL)=_
    rw [zME _ hbit]
  ·have hk:k∉O.take c:=fun h=>hb (zDB hpath k (List.mem_of_mem_take h))
   rw [nG,zCp,hdk,Option.map_some,Option.map_some,if_neg hb,if_neg hk,if_neg hk]
theorem zHY {F:Nat} {G:Nat→Bool}:∀ {l:List Nat} {S:Nat},bC F G S l→∀ c,0<c→c≤l.length→∃ T,G T=true∧∀ j,T.testBit j=(S.testBit j||decide (j∈l.take c))
 | [],_,_,c,h0,hc=>by simp at hc; omega
 | i::l,S,h,c+1,h0,hc=>by
  obtain ⟨h1,h2⟩:=h
  obtain ⟨g1,g2,g3⟩:=mX h1
  by_cases hz:c=0
  ·subst hz
   refine ⟨S|||2 ^ i,g3,fun j=>?_⟩
   rw [Nat.testBit_or,Nat.testBit_two_pow]
   simp only [List.take_succ_cons,List.take_zero,List.mem_singleton]
   rw [show decide (i=j)=decide (j=i) from decide_eq_decide.2 ⟨Eq.symm,Eq.symm⟩]
  ·obtain ⟨T,t1,t2⟩:=zHY h2 c (by omega) (by simpa using hc)
   refine ⟨T,t1,fun j=>?_⟩
   rw [t2,Nat.testBit_or,Nat.testBit_two_pow,List.take_succ_cons]
   simp only [List.mem_cons,Bool.decide_or,Bool.or_assoc]
   rw [show decide (i=j)=decide (j=i) from decide_eq_decide.2 ⟨Eq.symm,Eq.symm⟩]
theorem zVr {a:zD} (hd:DL a.devices) {B:zX} (hv:wL B=0) {O:List Nat} (hO:iV (rB a B)=some O) (h0:a.needs.all (jA (yT a.devices))=true) {c:Nat} (hc:c≤O.length):a.needs.all (jA (yT (stL (oB a B) O c)))=true:=by
 by_cases hz:c=0
 ·subst hz
  have:yT (stL (oB a B) O 0)=yT a.devices:=List.ext_getElem? fun k=>by rw [zKy hd hv hO]; simp
  rw [this]
  exact h0
 ·obtain ⟨T,t1,t2⟩:=zHY (zBA hO) c (by omega) hc
  have:yT (stL (oB a B) O c)=nU (rB a B) T:=List.ext_getElem? fun k=>by
   rw [zKy hd hv hO]
   unfold nU stU
   rw [List.getElem?_mapIdx,t2]
   show _=((yT a.devices)[k]?).map _
   cases hk:(yT a.devices)[k]? with
   | none=>
    have:(uG (yT a.devices) B.Images)[k]? =none:=by rw [uG,List.getElem?_map,hk]; rfl
    rw [this]
    simp
   | some x=>
    have hlt:k<(rB a B).Now.length:=(List.getElem?_eq_some_iff.1 hk).1
    have hn:∃ y,(uG (yT a.devices) B.Images)[k]? =some y:=by rw [uG,List.getElem?_map,hk]; exact ⟨_,rfl⟩
    obtain ⟨y,hy⟩:=hn
    simp only [Option.map_some,Nat.zero_testBit,Bool.false_or,decide_eq_true hlt,Bool.true_and,decide_eq_true_eq]
    show _=some (if k∈O.take c then ((uG (yT a.devices) B.Images)[k]?).getD x else x)
    rw [hy]
    split <;> rfl
  rw [this]
  exact t1
end Go.Proofs.YtplchdlgdjcojaaGreatDoor
end
section
namespace Go.Proofs.YtplchdlgdjcojaaGreatDoor
open Go
set_option linter.unusedVariables false
set_option linter.unusedSimpArgs false
structure StA (d:zA) (s:zC) (v:Option (List Int)) (g:Nat):Prop where
 sto:Sto d s 0
 K:(openF d 0).K=jK v
 gen:(openF d 0).gen≤g
def zPi (d:zA) (v:Option (List Int)) (g:Nat):Prop:=∃ t,xI (nN d) 0=some (nN d,some t,0)∧StU (nN d) t v g
theorem StU.arm {d:zA} {s:zC} {v:Option (List Int)} {g:Nat} (h:StU d s v g):StA d s v g:=⟨h.sto,h.K,h.gen⟩
theorem StA.up {d:zA} {s:zC} {v:Option (List Int)} {g h:Nat} (a:StA d s v g) (hg:g≤h):StA d s v h:=⟨a.sto,a.K,by have:=a.gen; omega⟩
theorem zPi.up {d:zA} {v:Option (List Int)} {g h:Nat} (a:zPi d v g) (hg:g≤h):zPi d v h:=by
 obtain ⟨t,h1,h2⟩:=a
 exact ⟨t,h1,h2.sto,h2.left,h2.K,by have:=h2.gen; omega⟩
theorem StA.dead {d:zA} {s:zC} {v:Option (List Int)} {g:Nat} (h:StA d s v g):zPi d v g:=by
 obtain ⟨t,h3,h4⟩:=zBJ (zLw h.sto.ok) rfl (by show 1024≤d.size; exact h.sto.size) (f:=0) (by show 0+1<d.wear.length; exact h.sto.first)
 exact ⟨t,h3,h4,rfl,h.K,h.gen⟩
theorem StA.armed {d:zA} {s:zC} {v:Option (List Int)} {g:Nat} (h:StA d s v g) {n t:Int} (hn:n≤9223372036854775807) (ht:0≤t∧t≤255):StA (zFi d n t) s v g:=
 ⟨h.sto.arm hn ht,by rw [zCT]; exact h.K,by rw [zCT]; exact h.gen⟩
theorem zWB {d:zA} {s:zC} {v v':Option (List Int)} {g:Nat} (h:StA d s v g) (hg:g<2147483648) {z:zF} (hz:okP [z]) (hk:wR (jK v) [z]=jK v'):
  ∃ r,zS s [z] d=some r∧(r.2.2=0∧StA r.2.1 r.1 v' (g+1)∨r.2.2=10∧∃ u,(u=v∨u=v')∧zPi r.2.1 u (g+1)):=by
 have hK:wR (openF d 0).K [z]=jK v':=by rw [h.K,hk]
 have hl:(jK v').length≤1:=by cases v' <;> simp [jK]
 have hg':=h.gen
 obtain ⟨r,h1,t,hc⟩:=h.sto.cut hz (by simp) (by rw [hK]; omega) (by omega) (fun _=>by rw [hK]; exact Nat.le_trans hl (by decide))
 refine ⟨r,h1,?_⟩
 have hgen:=hc.gen
 rcases hc.err with ⟨e0,e1,e2⟩ | ⟨e0,e1,e2⟩
 ·refine .inl ⟨e0,e2,?_,?_⟩
  ·rcases hc.list with hh | ⟨hh,_⟩
   ·rw [jD,hK] at hh; exact hh
   ·rw [e0] at hh; cases hh
  ·rw [jD] at hgen; omega
 ·refine .inr ⟨e0,?_⟩
  rcases hc.list with hh | ⟨_,hh⟩
  ·exact ⟨v', .inr rfl,t,hc.open_,hc.sto,rfl,by rw [hh,hK],by omega⟩
  ·exact ⟨v, .inl rfl,t,hc.open_,hc.sto,rfl,by rw [hh,h.K],by omega⟩
theorem zOk {x:List Int} (hx:rng x) (h28:x.length≤28):okP [⟨32,x,false⟩]:=⟨fun z hz=>by
  rw [List.mem_singleton] at hz
  subst hz
  exact ⟨⟨(by decide:(0:Int)≤32),(by decide:(32:Int)≤255)⟩,hx,h28,fun h=>by cases h⟩,List.pairwise_singleton _ _⟩
theorem zUq:okP [⟨32, [],true⟩]:=⟨fun z hz=>by
  rw [List.mem_singleton] at hz
  subst hz
  exact ⟨⟨(by decide:(0:Int)≤32),(by decide:(32:Int)≤255)⟩,(fun x (hx:x∈ [])=>(List.not_mem_nil hx).elim),Nat.zero_le _,fun _=>rfl⟩,List.pairwise_singleton _ _⟩
def zHI (N:List zT) (X:List zB):Prop:=DL X∧N.all (jA (yT X))=true
theorem zKx {a:zD} {N:List zT} (h:zHI N a.devices) (hN:N.length≤1000):mA a N=some true:=by
 obtain ⟨hd,hm⟩:=h
 unfold mA
 have hle:=hd.le
 have hpos:=hd.pos
 rw [zMK hd,bnd_some]
 refine xS (fun i=>((yT a.devices).take i,(i:Int))) a.devices.length (.inr (yT a.devices)) rfl (fun i hi=>?_) ?_ ?_
 ·simp only
  have hr:=hd.rdy _ (List.getElem_mem hi)
  have hv:=hr.vd
  rw [decide_eq_true (by omega:(i:Int)<(a.devices.length:Int)),cond_true,yR hi,bnd_some]
  refine yD (a:=false) ?_ ?_
  ·have hg:=hv.gr
   unfold sH at hg
   obtain ⟨g1,g2⟩:=Bool.and_eq_true_iff.1 hg
   have hb:(0:Int)≤a.devices[i].Running∧a.devices[i].Running≤1:=by rcases hv.br with h | h <;> omega
   rw [lJ,bnd_some,(sM _).2 hv,Bool.not_true,cond_false,decide_eq_false (by omega:¬ a.devices[i].Running<0),cond_false,decide_eq_false (by omega:¬ a.devices[i].Running>1),cond_false,zFv _ hv.br,bnd_some,zGI,bnd_some,g1,Bool.not_true,cond_false,eE,g2]
   rfl
  ·rw [cond_false,zBY,bnd_some,uQ (by simp [yT]; omega) (by simp [yT]; omega),bnd_some,zQ hi (by omega),yY (l:=yT a.devices) (by simpa [yT] using hi)]
   simp [yT]
 ·simp only
  rw [decide_eq_false (by omega:¬ (a.devices.length:Int)<(a.devices.length:Int)),cond_false,List.take_of_length_le (by simp [yT])]
 ·rw [retOr_inr]
  refine xS (fun i=>(i:Int)) N.length (.inr ()) rfl (fun i hi=>?_) ?_ ?_
  ·rw [decide_eq_true (by omega:(i:Int)<(N.length:Int)),cond_true,yR hi,bnd_some,zNk (by simp [yT]; omega),bnd_some,List.all_eq_true.1 hm _ (List.getElem_mem hi),Bool.not_true,cond_false,zQ hi (by omega)]
  ·rw [decide_eq_false (by omega:¬ (N.length:Int)<(N.length:Int)),cond_false]
  ·rw [retOr_inr,decide_eq_true (by omega)]
def zPK (N:List zT) (L:List zB) (O:List Nat) (m:Nat):Prop:=mD L O m∧DL L∧∀ c,c≤O.length→N.all (jA (yT (stL L O c)))=true
theorem zPK.good {N:List zT} {L:List zB} {O:List Nat} {m:Nat} (h:zPK N L O m) {c:Nat} (hc:c≤O.length):zHI N (stL L O c):=⟨zVM h.2.1 h.1 c,h.2.2 c hc⟩
def lM (N:List zT) (a:zD) (s:zC) (d:zA) (g:Nat):Prop:=
 (a.store=true∧a.needs=N∧(a.phase=0∨a.phase=1∧∃ bb,xU bb∧1≤bb.length∧bb.length≤8192∧a.load=dl (iz bb) (wM bb.length))∧zHI N a.devices∧StA d s none g)∨
 ∃ L O m c ph,zPK N L O m∧(ph=2∧c<O.length∨ph=3∧0<c∧c≤O.length)∧a=agC L N O m c ph∧StA d s (some (cQ ph m O)) g
def zDL (N:List zT) (X:List zB) (d:zA) (g:Nat):Prop:=
 zHI N X∧∃ v,zPi d v g∧(v=none∨∃ L O m c ph,zPK N L O m∧c≤O.length∧(ph=2∨ph=3)∧X=stL L O c∧v=some (cQ ph m O))
theorem lM.up {N:List zT} {a:zD} {s:zC} {d:zA} {g h:Nat} (hl:lM N a s d g) (hg:g≤h):lM N a s d h:=by
 rcases hl with ⟨h1,h2,h3,h4,h5⟩ | ⟨L,O,m,c,ph,h1,h2,h3,h4⟩
 ·exact .inl ⟨h1,h2,h3,h4,h5.up hg⟩
 ·exact .inr ⟨L,O,m,c,ph,h1,h2,h3,h4.up hg⟩
theorem lM.good {N:List zT} {a:zD} {s:zC} {d:zA} {g:Nat} (hl:lM N a s d g):zHI N a.devices:=by
 rcases hl with ⟨h1,h2,h3,h4,h5⟩ | ⟨L,O,m,c,ph,h1,h2,rfl,h4⟩
 ·exact h4
 ·exact h1.good (by rcases h2 with ⟨_,h⟩ | ⟨_,_,h⟩ <;> omega)
theorem lM.dead {N:List zT} {a:zD} {s:zC} {d:zA} {g:Nat} (hl:lM N a s d g):zDL N a.devices d g:=by
 refine ⟨hl.good,?_⟩
 rcases hl with ⟨h1,h2,h3,h4,h5⟩ | ⟨L,O,m,c,ph,h1,h2,rfl,h4⟩
 ·exact ⟨none,h5.dead, .inl rfl⟩
 ·exact ⟨_,h4.dead, .inr ⟨L,O,m,c,ph,h1,by rcases h2 with ⟨_,h⟩ | ⟨_,_,h⟩ <;> omega,by rcases h2 with ⟨h,_⟩ | ⟨h,_⟩ <;> simp [h],rfl,rfl⟩⟩
def zDX (N:List zT) (a:zD) (s:zC) (d:zA) (e:Int) (g:Nat):Prop:=zHI N a.devices∧(e≠10→lM N a s d g)∧(e=10→zDL N a.devices d g)
theorem lM.post {N:List zT} {a:zD} {s:zC} {d:zA} {g:Nat} (hl:lM N a s d g) (e:Int):zDX N a s d e g:=⟨hl.good,fun _=>hl,fun _=>hl.dead⟩
theorem zDL.post {N:List zT} {a:zD} {s:zC} {d:zA} {g:Nat} (hl:zDL N a.devices d g) {e:Int} (he:e=10):zDX N a s d e g:=⟨hl.1,fun h=>absurd he h,fun _=>hl⟩
theorem zSR {L:List zB} {N:List zT} {O:List Nat} {m c:Nat} {ph:Int} (hw:zPK N L O m) (hc:c≤O.length) (hp:ph=2∨ph=3) {s:zC} {d:zA} {g:Nat} (h:StA d s (some (cQ ph m O)) g) (hg:g<2147483648):
  ∃ r,zBx L N O m c ph s d=some r∧zDX N r.1 r.2.1 r.2.2.1 r.2.2.2 (g+1):=by
 obtain ⟨r,h1,h2⟩:=zWB h hg zUq (zKI _)
 unfold zBx
 rw [h1,bnd_some]
 rcases h2 with ⟨e,h2⟩ | ⟨e,u,hu,h2⟩
 ·rw [if_pos e]
  exact ⟨_,rfl,lM.post (.inl ⟨rfl,rfl, .inl rfl,hw.good hc,h2⟩) _⟩
 ·rw [if_neg (by rw [e]; decide)]
  refine ⟨_,rfl,zDL.post ⟨hw.good hc,u,h2,?_⟩ e⟩
  rcases hu with rfl | rfl
  ·exact .inr ⟨L,O,m,c,ph,hw,hc,hp,rfl,rfl⟩
  ·exact .inl rfl
theorem zEb {a:zD} (hp:a.phase≠1) (s:zC) (d:zA):yZ a s d=some (a,s,d,46):=by
 unfold yZ
 rw [xB (by simpa using hp),bnd_some,cond_true]
theorem zSm {a:zD} (hp:a.phase=1) {b:List Int} {k:Nat} (hl:a.load=dl b k):dlA a b k=a:=by
 cases a
 simp only at hp hl
 subst hp; subst hl
 rfl
theorem zTl {N:List zT} (hN:qN N=true) {a:zD} {s:zC} {d:zA} {g:Nat} (hl:lM N a s d g) (hg:g<2147483647):
  ∃ r,yZ a s d=some r∧zDX N r.1 r.2.1 r.2.2.1 r.2.2.2 (g+1):=by
 rcases hl with ⟨h1,h2,h3,h4,h5⟩ | ⟨L,O,m,c,ph,h1,h2,rfl,h4⟩
 ·rcases h3 with h3 | ⟨h3,bb,b1,b2,b3,b4⟩
  ·exact ⟨_,zEb (by omega) s d,lM.post (.inl ⟨h1,h2, .inl h3,h4,h5.up (by omega)⟩) _⟩
  ·have hcc:=zCK h4.1 h1 (by rw [h2]; exact hN) b1 b2 b3 s d
   rw [zSm h3 b4] at hcc
   rcases hcc with ⟨e,he,q1,q2⟩ | ⟨q1,q2,q3,q4,q5⟩ | ⟨q1,q2,q3,O,q4,q5,q6⟩
   ·exact ⟨_,q1,lM.post (.inl ⟨h1,h2, .inr ⟨h3,bb,b1,b2,b3,b4⟩,h4,h5.up (by omega)⟩) _⟩
   ·exact ⟨_,q5,lM.post (a:=⟨a.store,a.devices,a.needs,0,zPG,a.before,a.order⟩) (g:=g+1) (.inl ⟨h1,h2, .inl rfl,h4,h5.up (by omega)⟩) 0⟩
   ·have hv:=zNX q1
    have hord:=zJe h4.1 hv q3 q4
    have hDL:=zVk h4.1 hv
    have hmet:=fun (c:Nat) (hc:c≤O.length)=>zVr h4.1 hv q4 (by rw [h2]; exact h4.2) hc
    rw [h2] at hmet
    have hw:zPK N (oB a (oT bb).1) O (zAr (oB a (oT bb).1) (oB a (oT bb).1).length):=⟨hord,hDL,hmet⟩
    obtain ⟨w1,w2⟩:=hord.rngJ (ph:=2) (by omega)
    obtain ⟨r,p1,p2⟩:=zWB h5 (by omega) (zOk w1 w2) (zGo _ _)
    unfold cQ at p1
    rw [q6,p1,bnd_some]
    rcases p2 with ⟨e,p2⟩ | ⟨e,u,hu,p2⟩
    ·rw [if_pos e,h2]
     exact ⟨_,rfl,lM.post (.inr ⟨_,_,_,0,2,hw, .inl ⟨rfl,List.length_pos_iff.2 q5⟩,rfl,p2⟩) _⟩
    ·rw [if_neg (by rw [e]; decide)]
     refine ⟨_,rfl,zDL.post ⟨?_,u,p2,?_⟩ e⟩
     ·have:=hw.good (c:=0) (Nat.zero_le _)
      rw [zGC] at this
      exact this
     ·rcases hu with rfl | rfl
      ·exact .inl rfl
      ·exact .inr ⟨_,O,_,0,2,hw,Nat.zero_le _, .inl rfl,(zGC _ _).symm,rfl⟩
 ·refine ⟨_,zEb ?_ s d,lM.post (.inr ⟨L,O,m,c,ph,h1,h2,rfl,h4.up (by omega)⟩) _⟩
  show ph≠1
  omega
theorem zQx {N:List zT} {x:Option (zD × zC × zA × Int)} {g k:Nat} (h:∃ r,x=some r∧zDX N r.1 r.2.1 r.2.2.1 r.2.2.2 g):∃ r,(bnd x fun r=>some (zFZ k r))=some r∧zDX N r.1 r.2.1 r.2.2.1 r.2.2.2.2 g:=by
 obtain ⟨r,h1,h2⟩:=h
 rw [h1]
 exact ⟨_,rfl,h2⟩
theorem zVK {N:List zT} {a:zD} {s:zC} {d:zA} {g:Nat} (hl:lM N a s d g) (hg:g<2147483647) (b:Bool):
  ∃ r,yW a b s d=some r∧zDX N r.1 r.2.1 r.2.2.1 r.2.2.2.2 (g+1):=by
 rcases hl with ⟨h1,h2,h3,h4,h5⟩ | ⟨L,O,m,c,ph,h1,h2,rfl,h4⟩
 ·exact ⟨_,zSZ (by rcases h3 with h | ⟨h,_⟩; exact .inl h; exact .inr h) b s d,lM.post (.inl ⟨h1,h2,h3,h4,h5.up (by omega)⟩) _⟩
 ·have ho:=h1.1
  rcases h2 with ⟨rfl,hc⟩ | ⟨rfl,h0,hc⟩
  ·cases b with
   | true=>
    rw [zGm ho hc]
    by_cases hl:c+1<O.length
    ·rw [if_pos hl]
     exact ⟨_,rfl,lM.post (.inr ⟨L,O,m,c+1,2,h1, .inl ⟨rfl,hl⟩,rfl,h4.up (by omega)⟩) _⟩
    ·rw [if_neg hl]
     exact zQx (zSR h1 (by omega) (.inl rfl) h4 (by omega))
   | false=>
    rw [zUx ho hc]
    by_cases h0:c=0
    ·subst h0
     rw [if_pos rfl]
     exact zQx (zSR h1 (by omega) (.inl rfl) h4 (by omega))
    ·rw [if_neg h0]
     obtain ⟨w1,w2⟩:=ho.rngJ (ph:=3) (by omega)
     obtain ⟨r,p1,p2⟩:=zWB h4 (by omega) (zOk w1 w2) (zGo _ _)
     unfold cQ at p1
     rw [p1,bnd_some]
     rcases p2 with ⟨e,p2⟩ | ⟨e,u,hu,p2⟩
     ·rw [if_pos e]
      exact ⟨_,rfl,lM.post (.inr ⟨L,O,m,c,3,h1, .inr ⟨rfl,by omega,by omega⟩,rfl,p2⟩) _⟩
     ·rw [if_neg (by rw [e]; decide)]
      refine ⟨_,rfl,zDL.post ⟨h1.good (by omega),u,p2, .inr ?_⟩ e⟩
      rcases hu with rfl | rfl
      ·exact ⟨L,O,m,c,2,h1,by omega, .inl rfl,rfl,rfl⟩
      ·exact ⟨L,O,m,c,3,h1,by omega, .inr rfl,rfl,rfl⟩
  ·obtain ⟨c,rfl⟩:∃ e,c=e+1:=⟨c - 1,by omega⟩
   rw [zSd ho (by omega)]
   by_cases hl:0<c
   ·rw [if_pos hl]
    exact ⟨_,rfl,lM.post (.inr ⟨L,O,m,c,3,h1, .inr ⟨rfl,hl,by omega⟩,rfl,h4.up (by omega)⟩) _⟩
   ·rw [if_neg hl]
    exact zQx (zSR h1 (by omega) (.inr rfl) h4 (by omega))
def zBX (X Y:List zB):Prop:=Y.length=X.length∧Y.map (·.Name)=X.map (·.Name)∧(∀ d∈Y,VD d∧pY d)∧Y.map iG=X
theorem zBX.refl {X:List zB} (h:DL X):zBX X X:=⟨rfl,rfl,fun d hd=>⟨(h.rdy d hd).vd,(h.rdy d hd).sm⟩,zFQ h.rdy⟩
theorem zBX.set {X:List zB} (h:DL X) {k:Nat} (hk:k<X.length) {y:zB} (hn:y.Name=X[k].Name) (hv:VD y) (hs:pY y) (he:iG y=X[k]):zBX X (X.set k y):=by
 refine ⟨by simp,?_,fun d hd=>?_,?_⟩
 ·rw [List.map_set,hn,show X[k].Name=(X.map (·.Name))[k]'(by simpa using hk) by rw [List.getElem_map],List.set_getElem_self]
 ·rcases List.mem_or_eq_of_mem_set hd with hd | hd
  ·exact ⟨(h.rdy d hd).vd,(h.rdy d hd).sm⟩
  ·rw [hd]; exact ⟨hv,hs⟩
 ·rw [List.map_set,zFQ h.rdy,he,List.set_getElem_self]
theorem zJz {d:zB} (h:Rdy d):(zAA d).2≠0∨Two d:=by
 by_cases hg:sH (uM d.Slots (1 - d.Active)) d.Name=true
 ·exact .inr ⟨h,hg⟩
 ·refine .inl fun h0=>hg ?_
  unfold zAA at h0
  by_cases hw:wrE d=0
  ·rw [show (wrE d != 0)=false by simp [hw],cond_false,h.run] at h0
   cases hb:sH (uM d.Slots (1 - d.Active)) d.Name with
   | true=>rfl
   | false=>rw [hb,cond_false] at h0; cases h0
  ·rw [show (wrE d != 0)=true by simp [hw],cond_true] at h0
   exact absurd h0 hw
theorem zQc {N:List zT} (hN:qN N=true) {X:List zB} {d:zA} {g:Nat} (h:zDL N X d g) {Y:List zB} (hy:zBX X Y) (hg:g<2147483647):
  ∃ s r a,xI (nN d) 0=some (nN d,some s,0)∧wS s Y N (nN d)=some r∧r.2.2.1=some a∧r.2.2.2=0∧lM N a r.1 r.2.1 (g+1):=by
 obtain ⟨hX,v,⟨s,hs,hS⟩,hv⟩:=h
 obtain ⟨y1,y2,y3,y4⟩:=hy
 have hD:=hX.1
 have hop:=zLP (L:=Y) (by rw [y1]; exact hD.pos) (by rw [y1]; exact hD.le) (by rw [y2]; exact hD.names) y3 hN s (nN d)
 rw [y4,zXd hS.sto.rel hS.sto.okK,bnd_some,hS.K] at hop
 rcases hv with rfl | ⟨L,O,m,c,ph,hw,hc,hp,rfl,rfl⟩
 ·exact ⟨s,_,_,hs,hop,rfl,rfl, .inl ⟨rfl,rfl, .inl rfl,hX,hS.arm.up (by omega)⟩⟩
 ·have e1:nV (jK (some (cQ ph m O))) 32=some (cQ ph m O):=rfl
  have ho:=hw.1
  have hrd:uL (ag0 (stL L O c) N) (cQ ph m O)=some (agC L N O m c ph,true):=zUG ho.nd (fun i hi=>by rw [stL_len]; exact ho.lt hi) hD.le ho.len ho.small hp
  rw [e1] at hop
  simp only [Option.isSome_some,Option.getD_some,Bool.not_true,cond_false] at hop
  rw [hrd,bnd_some] at hop
  simp only [Bool.not_true,cond_false] at hop
  have hend:∀ {x:Option (zD × zC × zA × Int)},x=zBx L N O m c ph s (nN d)→
    wS s Y N (nN d)=(bnd x fun r8=>bif (r8.2.2.2 != 0) then (some (r8.2.1,r8.2.2.1,none,r8.2.2.2)) else (some (r8.2.1,r8.2.2.1,(some r8.1),0)))→
    ∃ s r a,xI (nN d) 0=some (nN d,some s,0)∧wS s Y N (nN d)=some r∧r.2.2.1=some a∧r.2.2.2=0∧lM N a r.1 r.2.1 (g+1):=by
   intro x hx hop
   obtain ⟨s',d',h1,h2⟩:=zSq (L:=L) (N:=N) (O:=O) (m:=m) (c:=c) (ph:=ph) hS (by omega)
   rw [hx,h1,bnd_some] at hop
   exact ⟨s,_,_,hs,hop,rfl,rfl, .inl ⟨rfl,rfl, .inl rfl,hX,h2.arm⟩⟩
  rcases hp with rfl | rfl
  ·rw [zOy ho] at hop
   by_cases hl:c<O.length
   ·rw [if_pos hl,bnd_some] at hop
    exact ⟨s,_,_,hs,hop,rfl,rfl, .inr ⟨L,O,m,c,2,hw, .inl ⟨rfl,hl⟩,rfl,hS.arm.up (by omega)⟩⟩
   ·rw [if_neg hl] at hop
    exact hend rfl hop
  ·rw [zOF ho hc] at hop
   by_cases hl:0<c
   ·rw [if_pos hl,bnd_some] at hop
    exact ⟨s,_,_,hs,hop,rfl,rfl, .inr ⟨L,O,m,c,3,hw, .inr ⟨rfl,hl,hc⟩,rfl,hS.arm.up (by omega)⟩⟩
   ·rw [if_neg hl] at hop
    exact hend rfl hop
end Go.Proofs.YtplchdlgdjcojaaGreatDoor
end
section
namespace Go.Proofs.YtplchdlgdjcojaaGreatDoor
open Go
set_option linter.unusedVariables false
set_option linter.unusedSimpArgs false
theorem zXt {x:Option Bool} (h:∃ r,x=some r∧r=true):x=some true:=by
 obtain ⟨r,h1,rfl⟩:=h
 exact h1
theorem zJb {α:Type} {x u v:Int} {A B:Option α} {R:α→Prop} (ha:x=u∨x=v→∃ r,A=some r∧R r) (hb:¬ (x=u∨x=v)→∃ r,B=some r∧R r):
  ∃ r,bnd ((bif x==u then some (x==u) else some (x==v):Option Bool)) (fun o=>bif o then A else B)=some r∧R r:=by
 by_cases hu:x=u
 ·rw [xB (by simpa using hu),bnd_some,xB (by simpa using hu)]
  exact ha (.inl hu)
 ·rw [yP (by simpa using hu),bnd_some]
  by_cases hv:x=v
  ·rw [xB (by simpa using hv)]
   exact ha (.inr hv)
  ·rw [yP (by simpa using hv)]
   exact hb (by rintro (h | h); exact hu h; exact hv h)
theorem zJt {α:Type} {b:Bool} {A B:Option α} {R:α→Prop} (ha:b=true→∃ r,A=some r∧R r) (hb:b=false→∃ r,B=some r∧R r):∃ r,(bif b then A else B)=some r∧R r:=by
 cases b
 ·exact hb rfl
 ·exact ha rfl
def zDa (d:zB):zB:=⟨d.Name,⟨⟨⟨d.Slots.e0.Image.Name,⟨1,0,0⟩,d.Slots.e0.Image.Data⟩,mU ⟨d.Slots.e0.Image.Name,⟨1,0,0⟩,d.Slots.e0.Image.Data⟩⟩,d.Slots.e1⟩,d.Active,d.Running,d.Trial⟩
theorem zNI {d:zB} (h:Rdy d) (h0:d.Active=0):Rdy (zDa d):=by
 have hg:=h.vd.ga
 rw [h0] at hg
 have hg':sH d.Slots.e0 d.Name=true:=hg
 unfold sH zAm at hg'
 obtain ⟨g1,g2⟩:=Bool.and_eq_true_iff.1 hg'
 obtain ⟨g3,g4⟩:=Bool.and_eq_true_iff.1 g1
 unfold wA at g3
 obtain ⟨q1,q2⟩:=Bool.and_eq_true_iff.1 g3
 obtain ⟨q3,q4⟩:=Bool.and_eq_true_iff.1 q2
 have hr:wA ⟨d.Slots.e0.Image.Name,⟨1,0,0⟩,d.Slots.e0.Image.Data⟩=true:=by
  unfold wA
  simp only
  rw [q1,q4,show jY ⟨1,0,0⟩=true from by decide]
  rfl
 have hn:sH (zDa d).Slots.e0 d.Name=true:=by
  unfold sH zAm zDa
  simp only
  rw [hr,beq_self_eq_true,g2]
  rfl
 refine ⟨⟨h.vd.ba,h.vd.br,?_,?_,fun ht=>?_⟩,⟨h.sm.1,h.sm.2⟩,h.run,h.tr⟩
 ·show sH (uM (zDa d).Slots d.Active) d.Name=true
  rw [h0]; exact hn
 ·show sH (uM (zDa d).Slots d.Running) d.Name=true
  rw [h.run,h0]; exact hn
 ·have ht':d.Trial=true:=ht
  rw [h.tr] at ht'
  cases ht'
theorem zWG {L:List zB} (h:zSP L):DL (L.map zDa):=⟨by simpa using h.1.pos,by simpa using h.1.le,by rw [List.map_map]; exact h.1.names,fun d hd=>by
 obtain ⟨e,he,rfl⟩:=List.mem_map.1 hd
 exact zNI (h.1.rdy e he) (h.2 e he)⟩
theorem zTc {L:List zB} (h:zSP L):∀ x∈yT (L.map zDa),x.Version=⟨1,0,0⟩:=by
 intro x hx
 unfold yT at hx
 rw [List.map_map] at hx
 obtain ⟨d,hd,rfl⟩:=List.mem_map.1 hx
 exact zFP (zNI (h.1.rdy d hd) (h.2 d hd)) (h.2 d hd)
theorem zTv {L:List zB} (h:zSP L) {N:List zT} (hN:∀ x∈N,x.From=⟨2,0,0⟩):N.all (jA (yT (L.map zDa)))=true:=by
 refine List.all_eq_true.2 fun n hn=>?_
 unfold jA
 cases hf:gL (yT (L.map zDa)) n.Component with
 | none=>rfl
 | some v=>
  have hv:v=⟨1,0,0⟩:=by
   unfold gL at hf
   obtain ⟨x,hx,rfl⟩:=Option.map_eq_some_iff.1 hf
   exact zTc h x (List.mem_of_find?_eq_some hx)
  simp only
  rw [hv,hN n hn,show vlt ⟨1,0,0⟩ ⟨2,0,0⟩=true from by decide]
  rfl
def zDS (L:List zB) (i:Nat):List zB:=L.mapIdx fun k d=>if k<i then zDa d else d
theorem zAg (L:List zB) (i k:Nat):(zDS L i)[k]? =L[k]?.map fun d=>if k<i then zDa d else d:=by
 simp [zDS,List.getElem?_mapIdx]
theorem zUc {L:List zB} (hl:L.length≤1000) (m:Int × List zB→Option (rG (Int × List zB) (List zB)))
  (hm:∀ s1,m s1=bif decide (s1.1<(L.length:Int)) then (bnd (elt s1.2 s1.1) fun x1=>bnd (tH s1.2 s1.1 (⟨x1.Name,(⟨(⟨(⟨x1.Slots.e0.Image.Name,(⟨1,0,0⟩:zK),x1.Slots.e0.Image.Data⟩:zH),x1.Slots.e0.Sum⟩:yB),x1.Slots.e1⟩:(rA yB)),x1.Active,x1.Running,x1.Trial⟩:zB)) fun l1=>bnd (elt l1 s1.1) fun x2=>bnd (elt l1 s1.1) fun x3=>bnd (sD x2.Slots.e0.Image) fun r4=>bnd (tH l1 s1.1 (⟨x3.Name,(⟨(⟨x3.Slots.e0.Image,r4⟩:yB),x3.Slots.e1⟩:(rA yB)),x3.Active,x3.Running,x3.Trial⟩:zB)) fun l2=>some (.next (IntKind.wrap .i64 (s1.1+1),l2))) else (some (.done s1.2))):
  yG m (0,L)=some (L.map zDa):=by
 have h0:(0,L)=(fun i:Nat=>((i:Int),zDS L i)) 0:=by
  have:zDS L 0=L:=List.ext_getElem? fun k=>by rw [zAg]; simp
  simp [this]
 rw [h0]
 refine qM (fun i:Nat=>((i:Int),zDS L i)) L.length (fun i hi=>?_) ?_
 ·rw [hm]
  simp only
  have hi':i<(zDS L i).length:=by simpa [zDS] using hi
  have e1:(zDS L i)[i]? =some L[i]:=by rw [zAg,List.getElem?_eq_getElem hi]; simp
  rw [decide_eq_true (by omega:(i:Int)<(L.length:Int)),cond_true,elt_nat,e1,bnd_some,sR hi',bnd_some,elt_nat,List.getElem?_set_self hi',bnd_some,bnd_some,aE,bnd_some,sR (by simpa using hi'),bnd_some,zQ hi (by omega),List.set_set]
  congr 3
  refine List.ext_getElem? fun k=>?_
  rw [List.getElem?_set,zAg,zAg]
  by_cases hk:i=k
  ·subst hk
   rw [if_pos rfl,if_pos hi',List.getElem?_eq_getElem hi,Option.map_some,if_pos (by omega)]
   rfl
  ·rw [if_neg hk]
   have:k<i+1↔k<i:=by omega
   simp only [this]
 ·rw [hm]
  simp only
  rw [decide_eq_false (by omega:¬ (L.length:Int)<(L.length:Int)),cond_false]
  congr 2
  refine List.ext_getElem? fun k=>?_
  rw [zAg,List.getElem?_map]
  cases h:L[k]? with
  | none=>rfl
  | some d=>
   have:=(List.getElem?_eq_some_iff.1 h).1
   simp [this]
theorem zVy (a:zD) {b:List Int} (h1:1≤b.length) (h2:b.length≤8192) (m:zD × Int→Option (rG (zD × Int) zD))
  (hm:∀ s1,m s1=bif decide ((IntKind.wrap .i64 (s1.2*64))<(b.length:Int)) then (bnd (sub b (IntKind.wrap .i64 (s1.2*64)) (min (b.length:Int) (IntKind.wrap .i64 ((IntKind.wrap .i64 (s1.2+1))*64)))) fun l1=>bnd (vC s1.1 s1.2 l1) fun r2=>some (.next (r2.1,IntKind.wrap .i64 (s1.2+1)))) else (some (.done s1.1))):
  yG m (dlA a b 0,0)=some (dlA a b (wM b.length)):=by
 have hc:wM b.length≤200:=by unfold wM; omega
 refine qM (fun i=>(dlA a b i,(i:Int))) (wM b.length) (fun i hi=>?_) ?_
 ·rw [hm]
  simp only
  have h64:64*i<b.length:=by unfold wM at hi; omega
  rw [zNB h2 hi,bnd_some,show ((i:Int)*64)=((64*i:Nat):Int) by omega,yX (by omega),decide_eq_true (by omega:((64*i:Nat):Int)<(b.length:Int)),cond_true,zNz a h1 h2 hi,bnd_some,zQ hi (by omega)]
 ·rw [hm]
  simp only
  have h64:b.length≤64*wM b.length:=by unfold wM; omega
  rw [show ((wM b.length:Int)*64)=((64*wM b.length:Nat):Int) by omega,yX (by omega),decide_eq_false (by omega:¬ ((64*wM b.length:Nat):Int)<(b.length:Int)),cond_false]
theorem zTK {N:List zT} {a:zD} {s:zC} {d:zA} {g:Nat} (hl:lM N a s d g) {b:List Int} (hb:zJs b):
  ∃ r,xG a (b.length:Int) 64=some r∧(r.2≠0∧r.1=a∨r.2=0∧1≤b.length∧b.length≤8192∧r.1=dlA a b 0∧lM N (dlA a b (wM b.length)) s d g):=by
 obtain ⟨bb,b1,b2,rfl⟩:=hb
 rw [iz_len]
 rcases hl with ⟨h1,h2,h3,h4,h5⟩ | ⟨L,O,m,c,ph,h1,h2,rfl,h4⟩
 ·have hp:a.phase=0∨a.phase=1:=by
   rcases h3 with h | ⟨h,_⟩
   ·exact .inl h
   ·exact .inr h
  by_cases h0:bb.length=0
  ·obtain rfl:bb= []:=List.length_eq_zero_iff.1 h0
   exact ⟨_,zQa hp, .inl ⟨by show (2:Int)≠0; decide,rfl⟩⟩
  ·have:=zKp (a:=a) hp (b:=iz bb) (by rw [iz_len]; omega) (by rw [iz_len]; exact b2)
   rw [iz_len] at this
   refine ⟨_,this, .inr ⟨rfl,by omega,b2,rfl, .inl ⟨h1,h2, .inr ⟨rfl,bb,b1,by omega,b2,rfl⟩,h4,h5⟩⟩⟩
 ·exact ⟨_,zMG (by rcases h2 with ⟨h,_⟩ | ⟨h,_⟩; exact .inl h; exact .inr h) _ _, .inl ⟨by show (46:Int)≠0; decide,rfl⟩⟩
theorem lM.armed {N:List zT} {a:zD} {s:zC} {d:zA} {g:Nat} (hl:lM N a s d g) {n t:Int} (hn:n≤9223372036854775807) (ht:0≤t∧t≤255):lM N a s (zFi d n t) g:=by
 rcases hl with ⟨h1,h2,h3,h4,h5⟩ | ⟨L,O,m,c,ph,h1,h2,h3,h4⟩
 ·exact .inl ⟨h1,h2,h3,h4,h5.armed hn ht⟩
 ·exact .inr ⟨L,O,m,c,ph,h1,h2,h3,h4.armed hn ht⟩
theorem zYa (d:zA) (n t:Int):qZ d n t=some (zFi d n t):=by
 unfold qZ zFi
 cases d.down <;> rfl
theorem zXS (d:zA):tZ d=some (nN d):=rfl
theorem zMR (codes:List Int) (h:okL (inK .u8) codes):nT codes=some true:=by
 unfold nT
 obtain ⟨c,e1,hc⟩:=zPe h (most:=300) (by omega) (by omega)
 obtain ⟨r3,e2,hc3,hL,h5⟩:=zLJ hc (most:=5) (by omega) (by omega)
 rw [zTG,bnd_some,Bool.not_true,cond_false,e1,bnd_some,show (5:Int)=((5:Nat):Int) from rfl,e2,bnd_some]
 refine yD (zUc (L:=r3.2) (by omega) _ (fun _=>rfl)) ?_
 have hD:=zWG hL
 obtain ⟨r5,e3,hc5,hN⟩:=zSz hc3 hD
 have hmet:=zTv hL hN.from2
 generalize r3.2.map zDa=L at*
 obtain ⟨n1,s,n2,hS⟩:=zOr
 have hop:=zKE hD (N:=r5.2) hN.ok hS.sto (by rw [hS.K]; rfl)
 rw [e3,bnd_some,n1,bnd_some]
 generalize zDE 2 1024=D at*
 show bnd (xI D 0) _=_
 rw [n2,bnd_some]
 show bnd (wS s L r5.2 D) _=_
 rw [hop,bnd_some]
 have hNl:r5.2.length≤1000:=by have:=hN.len; omega
 have hNo:=hN.ok
 obtain ⟨c5,N⟩:=r5
 simp only at hNl hNo hmet hop hc5 ⊢
 simp only [zEp,bne_self_eq_false,cond_false,bnd_some]
 refine zXt (iB (fun x=>vK ⟨x.2.2.1,x.2.2.2.1⟩∧∃ j:Nat,x.2.1=(j:Int)∧lM N x.1.1 x.1.2 ⟨x.2.2.2.2.1,x.2.2.2.2.2.1,x.2.2.2.2.2.2.1,x.2.2.2.2.2.2.2.1,x.2.2.2.2.2.2.2.2.1,x.2.2.2.2.2.2.2.2.2.1,x.2.2.2.2.2.2.2.2.2.2⟩ (2*j)) (fun x=>31 - x.2.1.toNat) (fun t=>∃ y,t= .inr y) ⟨hc5,0,rfl, .inl ⟨rfl,rfl, .inl rfl,⟨hD,hmet⟩,hS.arm⟩⟩ (fun x hI=>?_) (fun t ⟨y,hy⟩=>?_))
 case refine_2=>
  subst hy
  exact ⟨_,rfl,rfl⟩
 obtain ⟨⟨a,s⟩,i,cl,ca,d1,d2,d3,d4,d5,d6,d7⟩:=x
 obtain ⟨hc,j,hj,hI⟩:=hI
 simp only at hc hj hI ⊢
 subst hj
 generalize hd:(⟨d1,d2,d3,d4,d5,d6,d7⟩:zA)=d at hI ⊢
 by_cases h30:(j:Int)<30
 case neg=>
  rw [decide_eq_false h30,cond_false,bnd_some,cond_false]
  exact ⟨_,rfl,_,rfl⟩
 rw [decide_eq_true h30,cond_true,show vP ⟨cl,ca⟩=some (decide (ca<(cl.length:Int))) from rfl,bnd_some,bnd_some]
 by_cases hleft:ca<(cl.length:Int)
 case neg=>
  rw [decide_eq_false hleft,cond_false]
  exact ⟨_,rfl,_,rfl⟩
 rw [decide_eq_true hleft,cond_true]
 refine wQ (P:=fun o=>vK ⟨o.2.2.2.2.1,o.2.2.2.2.2⟩∧zDX N o.2.2.1 o.2.1 o.2.2.2.1 o.1 (2*j+1)) ?_ fun o7 ⟨k1,k2⟩=>?_
 ·refine wQ (lD hc (n:=8) (by omega)) fun r10 ⟨c1,c2,c3⟩=>?_
  refine zJb (fun _=>?_) fun _=>?_
  ·rw [zMK hI.good.1,bnd_some]
   refine wQ (zQO c1 (L:=a.devices) hI.good.1.le (N:=N) hNl) fun r12 ⟨o1,o2⟩=>?_
   refine wQ (zTK hI o2) fun r13 hr=>?_
   rcases hr with ⟨w1,w2⟩ | ⟨w1,w2,w3,w4,w5⟩
   ·rw [yP (by simpa using w1),w2]
    exact ⟨_,rfl,o1,(hI.up (by omega)).post _⟩
   ·rw [xB (by simpa using w1),w4,zVy a w2 w3 _ (fun _=>rfl),bnd_some]
    exact ⟨_,rfl,o1,(w5.up (by omega)).post _⟩
  refine zJb (fun _=>?_) fun _=>?_
  ·refine wQ (zTl hNo hI (by omega)) fun r hr=>?_
   exact ⟨_,rfl,c1,hr⟩
  refine zJb (fun _=>?_) fun _=>?_
  ·refine wQ (lD c1 (n:=4) (by omega)) fun r16 ⟨q1,q2,q3⟩=>?_
   refine wQ (zVK hI (by omega) (decide (r16.2<3))) fun r hr=>?_
   exact ⟨_,rfl,q1,hr⟩
  refine zJt (fun _=>?_) fun _=>?_
  ·refine wQ (lD c1 (n:=60) (by omega)) fun r18 ⟨q1,q2,q3⟩=>?_
   refine wQ (lD q1 (n:=256) (by omega)) fun r19 ⟨u1,u2,u3⟩=>?_
   rw [zYa,bnd_some]
   exact ⟨_,rfl,u1,((hI.armed (by rw [yN (by omega) (by omega)]; omega) (zIf _)).up (by omega)).post _⟩
  refine zJt (fun _=>?_) fun _=>?_
  ·exact ⟨_,rfl,c1,(hI.up (by omega)).post _⟩
  ·exact ⟨_,rfl,c1,(hI.up (by omega)).post _⟩
 have hw1:IntKind.wrap .i64 ((j:Int)+1)=((j+1:Nat):Int):=by rw [yN (by omega) (by omega)]; omega
 have hmu:31 - ((j+1:Nat):Int).toNat<31 - (j:Int).toNat:=by simp only [Int.toNat_natCast]; omega
 rw [zKx k2.1 hNl,bnd_some,Bool.not_true,cond_false,hw1]
 by_cases he:o7.1=10
 case neg=>
  rw [xB (by simpa using he)]
  exact ⟨_,rfl,⟨k1,j+1,rfl,(k2.2.1 he).up (by omega)⟩,hmu⟩
 have hX:=k2.1.1
 have hXl:=hX.le
 have hXp:=hX.pos
 have hdead:=k2.2.2 he
 rw [yP (by simpa using he),zMK hX,bnd_some]
 refine wQ (lD k1 (n:=(o7.2.2.1.devices.length:Int)) (by omega)) fun r23 ⟨q1,q2,q3⟩=>?_
 refine wQ (P:=fun o=>vK ⟨o.2.1,o.2.2⟩∧zBX o7.2.2.1.devices o.1) ?_ fun o12 ⟨m1,m2⟩=>?_
 ·generalize o7.2.2.1.devices=X at*
  obtain ⟨k,hk⟩:∃ k:Nat,r23.2=(k:Int):=⟨r23.2.toNat,by omega⟩
  have hkl:k<X.length:=by omega
  have hr:=hX.rdy _ (List.getElem_mem hkl)
  rw [hk,yR hkl,bnd_some,fW hr.sm,bnd_some]
  rcases zJz hr with h0 | h2
  ·rw [yP (by simpa using h0)]
   exact ⟨_,rfl,q1,zBX.refl hX⟩
  ·rw [cT h2]
   simp only [beq_self_eq_true,cond_true,bnd_some]
   rw [sR hkl,bnd_some]
   refine wQ (lD q1 (n:=2) (by omega)) fun r25 ⟨u1,u2,u3⟩=>?_
   have hsw:VD ⟨X[k].Name,X[k].Slots,X[k].Active,X[k].Running,true⟩:=⟨hr.vd.ba,hr.vd.br,hr.vd.ga,hr.vd.gr,fun _=>⟨hr.run,h2.2⟩⟩
   refine zJt (fun _=>?_) fun _=>?_
   ·rw [gM (d:=⟨X[k].Name,X[k].Slots,X[k].Active,X[k].Running,true⟩) hr.sm,bnd_some,jM h2,elt_nat,List.getElem?_set_self (by simpa using hkl),bnd_some,sR (by simpa using hkl),bnd_some,List.set_set]
    exact ⟨_,rfl,u1,zBX.set hX hkl rfl (zLX h2) hr.sm (zDy hr)⟩
   ·exact ⟨_,rfl,u1,zBX.set hX hkl rfl hsw hr.sm (zDy hr)⟩
 obtain ⟨s',r29,a',w1,w2,w3,w4,w5⟩:=zQc hNo hdead m2 (by omega)
 rw [zXS,bnd_some,w1,bnd_some]
 simp only [zEp]
 rw [w2,bnd_some,w3,w4]
 simp only [bne_self_eq_false,cond_false]
 rw [zKx w5.good hNl]
 simp only [bnd_some,Bool.not_true,cond_false]
 exact ⟨_,rfl,⟨m1,j+1,rfl,w5.up (by omega)⟩,hmu⟩
end Go.Proofs.YtplchdlgdjcojaaGreatDoor
end
