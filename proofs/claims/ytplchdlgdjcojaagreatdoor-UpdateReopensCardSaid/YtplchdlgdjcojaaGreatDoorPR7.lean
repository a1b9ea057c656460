/-
  Texts of this seat, put together: rules, walks, plain laws.
  Conditions: none.
-/
import Derived.Test.YtplchdlgdjcojaaGreatDoorPR6
section
namespace Go.Proofs.YtplchdlgdjcojaaGreatDoor
open Go
set_option linter.unusedVariables false
set_option linter.unusedSimpArgs false
def dlA (a:zC) (b:List Int) (k:Nat):zC:=⟨a.store,a.devices,a.needs,1,dl b k,a.before,a.order⟩
theorem zKZ {a:zC} (hp:a.phase=0∨a.phase=1) {b:List Int} (h1:1≤b.length) (h2:b.length≤8192):wK a (b.length:Int) 64=some (dlA a b 0,0):=by
  unfold wK
  rw [show (a.phase==2||(a.phase==3||false))=false by rcases hp with h | h <;> rw [h] <;> rfl,cond_false,zQQ h1 h2,bnd_some]
  rfl
theorem zPO {a:zC} (hp:a.phase=0∨a.phase=1):wK a (([]:List Int).length:Int) 64=some (a,2):=by
  unfold wK
  rw [show (a.phase==2||(a.phase==3||false))=false by rcases hp with h | h <;> rw [h] <;> rfl,cond_false]
  show bnd (sK ((0:Nat):Int) 64) _=_
  rw [zSW (n:=0) (.inl rfl),bnd_some]
  rfl
theorem zNO (a:zC) {b:List Int} {k:Nat} (h1:1≤b.length) (h2:b.length≤8192) (hk:k<wA b.length):vC (dlA a b k) (k:Int) (zAP b k)=some (dlA a b (k+1),0):=by
  unfold vC
  rw [show ((dlA a b k).phase != 1)=false from rfl,cond_false]
  show bnd (rI (dl b k) _ _) _=_
  rw [zTx h1 h2 hk,bnd_some]
  rfl
theorem zOd {b:List Int} {k:Nat} (h2:b.length≤8192) (hk:k<wA b.length):sub b (IntKind.wrap .i64 ((k:Int)*64)) (min (b.length:Int) (IntKind.wrap .i64 ((IntKind.wrap .i64 ((k:Int)+1))*64)))=some (zAP b k):=by
  have hc:64*k<b.length:=by unfold wA at hk; omega
  rw [show ((k:Int)*64)=((64*k:Nat):Int) by omega,yZ (by omega),show ((k:Int)+1)=((k+1:Nat):Int) by omega,yZ (by omega),show (((k+1:Nat):Int)*64)=((64*k+64:Nat):Int) by omega,yZ (by omega)]
  rw [show min (b.length:Int) ((64*k+64:Nat):Int)=((min (64*k+64) b.length:Nat):Int) by omega]
  unfold sub
  rw [if_pos ⟨by omega,by omega,by omega⟩,Int.toNat_natCast,Int.toNat_natCast]
  rfl
theorem zTK {τ:Type} (a:zC) {b:List Int} (h1:1≤b.length) (h2:b.length≤8192) (bad:zC→Int→sX (zC × Int) τ) (good:zC→τ) (m:zC × Int→Option (sX (zC × Int) τ))
    (hm:∀ s1,m s1=bif decide ((IntKind.wrap .i64 (s1.2*64))<(b.length:Int)) then (bnd (sub b (IntKind.wrap .i64 (s1.2*64)) (min (b.length:Int) (IntKind.wrap .i64 ((IntKind.wrap .i64 (s1.2+1))*64)))) fun l1=>bnd (vC s1.1 s1.2 l1) fun r2=>bif (r2.2 != 0) then (some (bad r2.1 r2.2)) else (some (.next (r2.1,IntKind.wrap .i64 (s1.2+1))))) else (some (.done (good s1.1)))):
    yE m (dlA a b 0,0)=some (good (dlA a b (wA b.length))):=by
  have hc:wA b.length≤200:=by unfold wA; omega
  refine pI (fun i=>(dlA a b i,(i:Int))) (wA b.length) (fun i hi=>?_) ?_
  · rw [hm]
    simp only
    have h64:64*i<b.length:=by unfold wA at hi; omega
    rw [zOd h2 hi,bnd_some,show ((i:Int)*64)=((64*i:Nat):Int) by omega,yZ (by omega),decide_eq_true (by omega:((64*i:Nat):Int)<(b.length:Int)),cond_true,zNO a h1 h2 hi,bnd_some,zR hi (by omega)]
    rfl
  · rw [hm]
    simp only
    have h64:b.length≤64*wA b.length:=by unfold wA; omega
    rw [show ((wA b.length:Int)*64)=((64*wA b.length:Nat):Int) by omega,yZ (by omega),decide_eq_false (by omega:¬ ((64*wA b.length:Nat):Int)<(b.length:Int)),cond_false]
def nEq (x y:zU):Bool:=(x.Component.toList==y.Component.toList)&&(((x.From.Major==y.From.Major)&&((x.From.Minor==y.From.Minor)&&((x.From.Patch==y.From.Patch)&&true)))&&((x.On.toList==y.On.toList)&&(((x.At.Major==y.At.Major)&&((x.At.Minor==y.At.Minor)&&((x.At.Patch==y.At.Patch)&&true)))&&true)))
theorem zAY {l:List zU} (hl:l.length≤1000) (x:zU):wD l x=some (l.any (nEq x)):=by
  unfold wD uA
  cases hr:l.any (nEq x)
  · refine yA (a := -1) ?_ rfl
    refine xT (fun i=>(i:Int)) l.length (.inr ()) rfl (fun i hi=>?_) ?_ rfl
    · have := List.any_eq_false.1 hr _ (List.getElem_mem hi)
      rw [decide_eq_true (by omega:(i:Int)<(l.length:Int)),cond_true,yV hi,bnd_some]
      show (bif nEq x l[i] then _ else _)=_
      rw [yT (by simpa using this),zR hi (by omega)]
    · rw [decide_eq_false (by omega:¬ (l.length:Int)<(l.length:Int))]; rfl
  · -- the first one
    have hex:∃ k,∃ h:k<l.length,nEq x l[k]=true∧∀ j,(hj:j<k)→nEq x (l[j]'(by omega))=false:=by
      have h1:∃ k,∃ h:k<l.length,nEq x l[k]=true:=by
        obtain ⟨y,hy,h2⟩:=List.any_eq_true.1 hr
        obtain ⟨k,hk,he⟩:=List.mem_iff_getElem.1 hy
        exact ⟨k,hk,by rw [he]; exact h2⟩
      obtain ⟨k,hk,h2⟩:=h1
      induction k using Nat.strongRecOn with
      | ind k ih=>
        by_cases hall:∀ j,(hj:j<k)→nEq x (l[j]'(by omega))=false
        · exact ⟨k,hk,h2,hall⟩
        · simp only [Classical.not_forall] at hall
          obtain ⟨j,hj,h3⟩:=hall
          exact ih j hj (by omega) (by simpa using h3)
    obtain ⟨k,hk,h2,h3⟩:=hex
    refine yA (a:=(k:Int)) ?_ (by rw [decide_eq_true (by omega:(k:Int)≥0)])
    refine yA (a:=.inl (k:Int)) ?_ rfl
    refine pI (fun i=>(i:Int)) k (fun i hi=>?_) ?_
    · rw [decide_eq_true (by omega : (i : Int) < (l.length : Int)), cond_true, yV (by omega : i < l.length), bnd_some]
      show (bif nEq x l[i] then _ else _)=_
      rw [h3 i hi,cond_false,zR hi (by omega)]
    · rw [decide_eq_true (by omega : (k : Int) < (l.length : Int)), cond_true, yV hk, bnd_some]
      show (bif nEq x l[k] then _ else _)=_
      rw [h2,cond_true]
def nV (l:List ByteArray):Prop:=l.Pairwise (· ≠·)
theorem eH {l:List ByteArray} (h:nV l) {i j:Nat} (hi:i<l.length) (hj:j<l.length) (he:l[i]=l[j]):i=j:=by
  have hp:=List.pairwise_iff_getElem.1 h
  rcases Nat.lt_trichotomy i j with hij | hij | hij
  · exact absurd he (hp i j hi hj hij)
  · exact hij
  · exact absurd he.symm (hp j i hj hi hij)
theorem zFS {l:List ByteArray} (h:lS l=true):nV l:=List.pairwise_iff_getElem.2 fun i j hi hj hij=>zKj h hi hj (by omega)
theorem zRQ {nx:List zN} (hl:nx.length≤1000) (hd:nV (nx.map (·.Name))) (x:zI):
    (∃ k,∃ h:k<nx.length,nx[k].Name=x.Name∧zV nx x=some (k:Int))∨
    ((∀ c∈nx,c.Name≠x.Name)∧zV nx x=some (-1)):=by
  have step:∀ i,(h:i<nx.length)→uP nx[i] x=some (decide (nx[i].Name=x.Name)):=fun i h=>by
    unfold uP
    rw [bE]
  by_cases hex:∃ k,∃ h:k<nx.length,nx[k].Name=x.Name
  · obtain ⟨k, hk, he⟩ := hex
    refine .inl ⟨k,hk,he,?_⟩
    unfold zV
    refine yA (a:=.inl (k:Int)) ?_ rfl
    refine pI (fun i=>(i:Int)) k (fun i hi=>?_) ?_
    · have hne : nx[i].Name ≠ x.Name := fun hh => by
        have:=eH hd (i:=i) (j:=k) (by rw [List.length_map]; omega) (by rw [List.length_map]; omega) (by rw [List.getElem_map,List.getElem_map,hh,he])
        omega
      rw [decide_eq_true (by omega:(i:Int)<(nx.length:Int)),cond_true,yV (by omega:i<nx.length),bnd_some,step,bnd_some,decide_eq_false hne,cond_false,zR hi (by omega)]
    · rw [decide_eq_true (by omega:(k:Int)<(nx.length:Int)),cond_true,yV hk,bnd_some,step,bnd_some,decide_eq_true he,cond_true]
  · have hno : ∀ c ∈ nx, c.Name ≠ x.Name := fun c hc he => by
      obtain ⟨k,hk,h2⟩:=List.mem_iff_getElem.1 hc
      exact hex ⟨k,hk,by rw [h2]; exact he⟩
    refine .inr ⟨hno,?_⟩
    unfold zV
    refine xT (fun i=>(i:Int)) nx.length (.inr ()) rfl (fun i hi=>?_) ?_ rfl
    · rw [decide_eq_true (by omega:(i:Int)<(nx.length:Int)),cond_true,yV hi,bnd_some,step,bnd_some,decide_eq_false (hno _ (List.getElem_mem hi)),cond_false,zR hi (by omega)]
    · rw [decide_eq_false (by omega:¬ (nx.length:Int)<(nx.length:Int))]; rfl
def vOf (l:List zI) (n:ByteArray) (v:zJ):zJ:=match l.find? (fun x=>decide (x.Name=n)) with
  | some x=>x.Version
  | none=>v
def sN (now:List zN) (l:List zI):List zN:=now.map fun c=>⟨c.Name,vOf l c.Name c.Version⟩
def zQA (now:List zN) (n:ByteArray):Bool:=now.any fun c=>decide (c.Name=n)
@[simp] theorem nextL_len (now:List zN) (l:List zI):(sN now l).length=now.length:=by simp [sN]
theorem zLo {now:List zN} (l:List zI) {j:Nat} (hj:j<now.length):(sN now l)[j]'(by simpa using hj)=⟨now[j].Name,vOf l now[j].Name now[j].Version⟩:=by simp [sN]
theorem zKn (now:List zN) (l:List zI):(sN now l).map (·.Name)=now.map (·.Name):=by
  simp [sN,List.map_map,Function.comp_def]
theorem zOD (now:List zN):sN now []=now:=by
  unfold sN vOf
  simp
theorem zPl {now:List zN} (hd:nV (now.map (·.Name))) {l:List zI} {x:zI} (hx:∀ y∈l,y.Name≠x.Name) {k:Nat} (hk:k<now.length) (he:now[k].Name=x.Name):(sN now l).set k ⟨x.Name,x.Version⟩=sN now (l++ [x]):=by
  apply List.ext_getElem (by simp)
  intro j h1 h2
  have hj:j<now.length:=by simpa using h2
  rw [List.getElem_set,zLo l hj,zLo (l++ [x]) hj]
  by_cases hkj:k=j
  · subst hkj
    rw [if_pos rfl,he]
    unfold vOf
    rw [List.find?_append,List.find?_eq_none.2 fun y hy=>by simpa using hx y hy]
    simp
  · rw [if_neg hkj]
    have hne:x.Name≠now[j].Name:=fun hh=>hkj (eH hd (by rw [List.length_map]; omega) (by rw [List.length_map]; omega) (by rw [List.getElem_map,List.getElem_map,he,hh]))
    unfold vOf
    rw [List.find?_append]
    cases hf:l.find? (fun y=>decide (y.Name=now[j].Name)) with
    | none=>simp [hne]
    | some y=>simp
def lW (now:List zN) (N:List zU) (B:zX):xE × Int:=
  if (B.Images.all fun x=>zQA now x.Name)=true then (if (B.Needs.all fun x=>N.any (nEq x))=true then (⟨now,sN now B.Images,N⟩,0) else (⟨[], [], []⟩,42)) else (⟨[], [], []⟩,8)
theorem zTu {a:zC} (h8:a.devices.length≤8) (hd:nV ((wR a.devices).map (·.Name))) (hN:a.needs.length≤16) {B:zX} (hB:B.Images.length≤8) (hBn:B.Needs.length≤16) (hi:nV (B.Images.map (·.Name))):
    tV a B=some (lW (wR a.devices) a.needs B):=by
  unfold tV lW
  rw [zUm (by omega),bnd_some,bnd_some,zGi (by omega),bnd_some]
  generalize hnow:wR a.devices=now at*
  have hnl:now.length≤8:=by rw [←hnow]; simp [wR]; omega
  -- the images
  have himg:∀ (m:Int × List zN→Option (sX (Int × List zN) ((xE × Int) ⊕ List zN))),
      (∀ s1,m s1=bif decide (s1.1<(B.Images.length:Int)) then (bnd (elt B.Images s1.1) fun x1=>bnd (zV s1.2 x1) fun r4=>bif decide (r4<0) then (some (.done (.inl ((⟨[], [], []⟩:xE),8)))) else (bnd (elt s1.2 r4) fun x2=>bnd (sW s1.2 r4 (⟨x2.Name,x1.Version⟩:zN)) fun l1=>some (.next (IntKind.wrap .i64 (s1.1+1),l1)))) else (some (.done (.inr s1.2))))→
      yE m (0,now)=some (if (B.Images.all fun x=>zQA now x.Name)=true then .inr (sN now B.Images) else .inl (⟨[], [], []⟩,8)):=by
    intro m hm
    have key:∀ (r i:Nat),i+r=B.Images.length→((B.Images.take i).all fun x=>zQA now x.Name)=true→yE m ((i:Int),sN now (B.Images.take i))=some (if (B.Images.all fun x=>zQA now x.Name)=true then .inr (sN now B.Images) else .inl (⟨[], [], []⟩,8)):=by
      intro r
      induction r with
      | zero=>
        intro i hir hall
        rw [List.take_of_length_le (by omega)] at hall ⊢
        rw [if_pos hall]
        refine xR ?_
        rw [hm]
        simp only
        rw [decide_eq_false (by omega:¬ (i:Int)<(B.Images.length:Int)),cond_false]
      | succ r ih=>
        intro i hir hall
        have hib:i<B.Images.length:=by omega
        have ht:B.Images.take (i+1)=B.Images.take i++ [B.Images[i]]:=xB hib
        rcases zRQ (nx:=sN now (B.Images.take i)) (by simp; omega) (by rw [zKn]; exact hd) B.Images[i] with ⟨k,hk,h1,h2⟩ | ⟨h1,h2⟩
        · have hkn : k < now.length := by simpa using hk
          have h1':now[k].Name=B.Images[i].Name:=by
            rw [←h1]
            simp [sN]
          refine tK (s':=(((i+1:Nat):Int),sN now (B.Images.take (i+1)))) ?_ (ih (i+1) (by omega) ?_)
          · rw [hm]
            simp only
            rw [decide_eq_true (by omega:(i:Int)<(B.Images.length:Int)),cond_true,yV hib,bnd_some,h2,bnd_some,decide_eq_false (by omega:¬ (k:Int)<0),cond_false,yV hk,bnd_some,oM hk,bnd_some,zR hib (by omega),h1,zPl hd (fun y hy he=>?_) hkn h1',ht]
            obtain ⟨j,hj,hje⟩:=List.mem_iff_getElem.1 hy
            rw [List.length_take] at hj
            rw [List.getElem_take] at hje
            have:=eH hi (i:=j) (j:=i) (by rw [List.length_map]; omega) (by rw [List.length_map]; omega) (by rw [List.getElem_map,List.getElem_map,hje,he])
            omega
          · rw [ht, List.all_append, hall, Bool.true_and]
            simp only [List.all_cons,List.all_nil,Bool.and_true]
            exact List.any_eq_true.2 ⟨now[k],List.getElem_mem hkn,decide_eq_true h1'⟩
        · rw [if_neg]
          · refine xR ?_
            rw [hm]
            simp only
            rw [decide_eq_true (by omega:(i:Int)<(B.Images.length:Int)),cond_true,yV hib,bnd_some,h2,bnd_some]
            rfl
          · intro hh
            have:=List.all_eq_true.1 hh _ (List.getElem_mem hib)
            obtain ⟨c,hc,hce⟩:=List.any_eq_true.1 this
            obtain ⟨k,hk,he⟩:=List.mem_iff_getElem.1 hc
            refine h1 ((sN now (B.Images.take i))[k]'(by simpa using hk)) (List.getElem_mem _) ?_
            simp only [sN,List.getElem_map,he]
            exact of_decide_eq_true hce
    have:=key B.Images.length 0 (by omega) rfl
    rw [List.take_zero,zOD] at this
    exact this
  refine yA (himg _ (fun _=>rfl)) ?_
  by_cases hall:(B.Images.all fun x=>zQA now x.Name)=true
  · rw [if_pos hall, if_pos hall, retOr_inr]
    by_cases hnd:(B.Needs.all fun x=>a.needs.any (nEq x))=true
    · rw [if_pos hnd]
      refine xT (fun i=>(i:Int)) B.Needs.length (.inr ()) rfl (fun i hi=>?_) ?_ rfl
      · rw [decide_eq_true (by omega:(i:Int)<(B.Needs.length:Int)),cond_true,yV hi,bnd_some,zAY (by omega),bnd_some,List.all_eq_true.1 hnd _ (List.getElem_mem hi),Bool.not_true,cond_false,zR hi (by omega)]
      · rw [decide_eq_false (by omega:¬ (B.Needs.length:Int)<(B.Needs.length:Int))]; rfl
    · rw [if_neg hnd]
      refine nC (fun i=>(i:Int)) B.Needs.length (fun i=>match B.Needs[i]? with | some x=>!a.needs.any (nEq x) | none=>false) (.inl (⟨[], [], []⟩,42)) (.inr ()) rfl (fun i hi=>?_) ?_ ?_
      · rw [decide_eq_true (by omega : (i : Int) < (B.Needs.length : Int)), cond_true, yV hi, bnd_some, zAY (by omega), bnd_some, List.getElem?_eq_getElem hi, zR hi (by omega)]
        show (bif !a.needs.any (nEq B.Needs[i]) then _ else _)=some (bif !a.needs.any (nEq B.Needs[i]) then _ else _)
        cases a.needs.any (nEq B.Needs[i]) <;> rfl
      · rw [decide_eq_false (by omega:¬ (B.Needs.length:Int)<(B.Needs.length:Int))]; rfl
      · have : ((List.range B.Needs.length).any fun i => match B.Needs[i]? with | some x => !a.needs.any (nEq x) | none => false) = true := by
          refine List.any_eq_true.2 ?_
          have h2:∃ x∈B.Needs,¬ (a.needs.any (nEq x))=true:=by
            refine Classical.byContradiction fun hh=>hnd (List.all_eq_true.2 fun x hx=>Classical.byContradiction fun h3=>hh ⟨x,hx,h3⟩)
          obtain ⟨x,hx,h3⟩:=h2
          obtain ⟨i,hi,he⟩:=List.mem_iff_getElem.1 hx
          refine ⟨i,by simpa using hi,?_⟩
          rw [List.getElem?_eq_getElem hi,he]
          simpa using h3
        rw [this,cond_true]
        rfl
  · rw [if_neg hall, if_neg hall]
    rfl
end Go.Proofs.YtplchdlgdjcojaaGreatDoor
end
section
namespace Go.Proofs.YtplchdlgdjcojaaGreatDoor
open Go
set_option linter.unusedVariables false
set_option linter.unusedSimpArgs false
def zDQ (d:zB) (x:zI):zB:=⟨d.Name,kZ d.Slots (1 - d.Running) ⟨x,kF x⟩,d.Active,d.Running,d.Trial⟩
theorem zHk (a:qS yF) (k:Int) (y z:yF):kZ (kZ a k y) k z=kZ a k z:=by
  unfold kZ
  split <;> rfl
theorem zJE {x:zI} {n:ByteArray} (h:wM x=true) (hn:x.Name=n):oU ⟨x,kF x⟩ n=true:=by
  unfold oU zCS
  simp [h,hn]
theorem zDN {x:zI} (h:wM x=true):small x:=by
  have:=(rV h).2.2.2
  unfold small; omega
theorem zPz {d:zB} (h:Rdy d) {x:zI} (hx:wM x=true) (hn:x.Name=d.Name):Two (zDQ d x):=by
  have hi:=zIz (n:=d.Name) ⟨h.vd,rfl,h.sm⟩ h.run h.tr (y:=⟨x,kF x⟩) (zDN hx)
  refine ⟨⟨hi.vd,hi.sm,h.run,h.tr⟩,?_⟩
  show oU (qA (kZ d.Slots (1 - d.Running) ⟨x,kF x⟩) (1 - d.Active)) d.Name=true
  rw [h.run,zFe]
  exact zJE hx hn
theorem zQE {a:zC} {k:Nat} {d:zB} (hd:a.devices[k]? =some d) (h:Rdy d) {x:zI} (hx:wM x=true) (hn:x.Name=d.Name):
    uZ a (k:Int) x=some (⟨a.store,a.devices.set k (zDQ d x),a.needs,a.phase,a.load,a.before,a.order⟩,0):=by
  have hk:=(List.getElem?_eq_some_iff.1 hd).1
  have hi0:Inv d d.Name:=⟨h.vd,rfl,h.sm⟩
  have hxs:=zDN hx
  have e1:zIy d=(⟨d.Name,kZ d.Slots (1 - d.Running) lR,d.Active,d.Running,d.Trial⟩,0):=by
    unfold zIy
    rw [zNv h.vd h.run h.tr]
    rfl
  have hi1:Inv ⟨d.Name,kZ d.Slots (1 - d.Running) lR,d.Active,d.Running,d.Trial⟩ d.Name:=zIz hi0 h.run h.tr zGl
  have e2:zIr ⟨d.Name,kZ d.Slots (1 - d.Running) lR,d.Active,d.Running,d.Trial⟩ x (x.Data.length:Int)=(⟨d.Name,kZ d.Slots (1 - d.Running) ⟨x,0⟩,d.Active,d.Running,d.Trial⟩,0):=by
    unfold zIr
    rw [zNv hi1.vd h.run h.tr]
    have hok:bF ⟨d.Name,kZ d.Slots (1 - d.Running) lR,d.Active,d.Running,d.Trial⟩ x (x.Data.length:Int)=true:=by
      unfold bF
      simp [hx,hn]
    rw [hok]
    simp only [bne_self_eq_false,cond_false,cond_true,zHk,Int.toNat_natCast,List.take_length]
  have hi2:Inv ⟨d.Name,kZ d.Slots (1 - d.Running) ⟨x,0⟩,d.Active,d.Running,d.Trial⟩ d.Name:=zIz hi0 h.run h.tr (y:=⟨x,0⟩) hxs
  have e3:zEq ⟨d.Name,kZ d.Slots (1 - d.Running) ⟨x,0⟩,d.Active,d.Running,d.Trial⟩ (kF x)=(zDQ d x,0):=by
    unfold zEq
    rw [zNv hi2.vd h.run h.tr]
    simp only [bne_self_eq_false,cond_false,zFe,zHk]
    rw [zJE hx hn,cond_true]
    rfl
  unfold uZ
  rw [elt_nat,hd,bnd_some,zMe h.sm,bnd_some,e1]
  simp only [bne_self_eq_false,cond_false,bnd_some]
  rw [oM hk,bnd_some,zMg hi1.sm hxs,bnd_some,e2]
  simp only [bne_self_eq_false,cond_false]
  rw [zCw,bnd_some,zKU hi2.sm,bnd_some,e3]
  simp only [bne_self_eq_false,cond_false]
  rw [elt_nat,List.getElem?_set_self hk,bnd_some,oM (by simpa using hk),bnd_some,List.set_set]
def zJi (l:List zI) (n:ByteArray):Option zI:=l.find? fun x=>decide (x.Name=n)
theorem zTR (l:List zI) (n:ByteArray) (v:zJ):vOf l n v=match zJi l n with | some x=>x.Version | none=>v:=rfl
theorem zLx {l:List zI} (hd:nV (l.map (·.Name))) {n:ByteArray} {x:zI} (h:zJi l n=some x):∃ k,∃ hk:k<l.length,l[k]=x∧x.Name=n∧zKp l n=(k:Int):=by
  unfold zJi at h
  have hn:x.Name=n:=by simpa using List.find?_some h
  obtain ⟨k,hk,he⟩:=List.mem_iff_getElem.1 (List.mem_of_find?_eq_some h)
  refine ⟨k,hk,he,hn,?_⟩
  unfold zKp
  rw [zLe (i:=k) (v:=(k:Int)) hk (by rw [List.getElem?_eq_getElem hk,he,Option.map_some,hn,if_pos rfl]) (fun j hj=>?_)]
  rw [List.getElem?_eq_getElem (by omega),Option.map_some,if_neg]
  intro hh
  injection hh with hh
  have:=eH hd (i:=j) (j:=k) (by rw [List.length_map]; omega) (by rw [List.length_map]; omega) (by rw [List.getElem_map,List.getElem_map,hh,he,hn])
  omega
def zLw (l:List zI) (d:zB):zB:=match zJi l d.Name with | some x=>zDQ d x | none=>d
def wrL (L:List zB) (l:List zI) (S:List Nat) (j:Nat):List zB:=L.mapIdx fun i d=>if i∈S.take j then zLw l d else d
@[simp] theorem wrL_len (L:List zB) (l:List zI) (S:List Nat) (j:Nat):(wrL L l S j).length=L.length:=by simp [wrL]
theorem zCt (L:List zB) (l:List zI) (S:List Nat) (j i:Nat):(wrL L l S j)[i]? =L[i]?.map fun d=>if i∈S.take j then zLw l d else d:=by simp [wrL,List.getElem?_mapIdx]
theorem zRt (L:List zB) (l:List zI) (S:List Nat):wrL L l S 0=L:=by
  apply List.ext_getElem?
  intro i
  rw [zCt]
  simp
theorem zQW {L:List zB} {l:List zI} {S:List Nat} (h:S.Nodup) {c:Nat} (hc:c<S.length) {d:zB} (hd:L[S[c]]? =some d):(wrL L l S c).set S[c] (zLw l d)=wrL L l S (c+1):=by
  apply List.ext_getElem?
  intro i
  rw [List.getElem?_set,zCt,zCt,wrL_len]
  have hlt:S[c]<L.length:=(List.getElem?_eq_some_iff.1 hd).1
  have ht:S.take (c+1)=S.take c++ [S[c]]:=xB hc
  by_cases hi:S[c]=i
  · subst hi
    rw [if_pos rfl,if_pos hlt,hd,Option.map_some,if_pos ((wX h hc _).2 (by omega))]
  · rw [if_neg hi]
    have:(i∈S.take (c+1))↔i∈S.take c:=by
      rw [ht,List.mem_append,List.mem_singleton]
      constructor
      · rintro (h | h)
        · exact h
        · exact absurd h.symm hi
      · exact .inl
    simp only [this]
def fR (a:zC) (L:List zB):zC:=⟨a.store,L,a.needs,a.phase,a.load,a.before,a.order⟩
theorem zOF {a:zC} {B:zX} (hB:B.Images.length≤8) (hd:nV (B.Images.map (·.Name))) (hr:∀ x∈B.Images,wM x=true) {S:List Nat} (hS:S.Nodup) (hl:S.length≤1000)
    (hk:∀ k∈S,∃ d x,a.devices[k]? =some d∧Rdy d∧zJi B.Images d.Name=some x) (bad:zC→Int→(zC × zD × zA × Int))
    (m:zC × Int→Option (sX (zC × Int) ((zC × zD × zA × Int) ⊕ zC)))
    (hm:∀ s1,m s1=bif decide (s1.2<((iz S).length:Int)) then (bnd (elt (iz S) s1.2) fun x1=>bnd (elt s1.1.devices x1) fun x2=>bnd (nX B x2.Name) fun r7=>bnd (elt B.Images r7) fun x3=>bnd (uZ s1.1 x1 x3) fun r8=>bif (r8.2 != 0) then (some (.done (.inl (bad r8.1 r8.2)))) else (some (.next (r8.1,IntKind.wrap .i64 (s1.2+1))))) else (some (.done (.inr s1.1)))):
    yE m (a,0)=some (.inr (fR a (wrL a.devices B.Images S S.length))):=by
  have h0:a=fR a (wrL a.devices B.Images S 0):=by rw [zRt]; rfl
  have:=pI (m:=m) (t:=.inr (fR a (wrL a.devices B.Images S S.length))) (fun i=>(fR a (wrL a.devices B.Images S i),(i:Int))) S.length (fun i hi=>?_) ?_
  · rw [←h0] at this; exact this
  · rw [hm]
    simp only
    obtain ⟨d,x,h1,h2,h3⟩:=hk _ (List.getElem_mem hi)
    obtain ⟨k,hkl,h4,h5,h6⟩:=zLx hd h3
    have hdev:(fR a (wrL a.devices B.Images S i)).devices[S[i]]? =some d:=by
      show (wrL a.devices B.Images S i)[S[i]]? =_
      rw [zCt,h1,Option.map_some,if_neg (fun hh=>absurd ((wX hS hi i).1 hh) (by omega))]
    rw [iz_len,decide_eq_true (by omega:(i:Int)<(S.length:Int)),cond_true,eX hi,bnd_some,elt_nat,hdev,bnd_some,zPo B d.Name (by omega),bnd_some,h6,yV hkl,bnd_some,h4,zQE hdev h2 (hr x (by rw [←h4]; exact List.getElem_mem hkl)) h5,bnd_some,zR hi (by omega)]
    have hset:(wrL a.devices B.Images S i).set S[i] (zDQ d x)=wrL a.devices B.Images S (i+1):=by
      rw [←zQW hS hi h1]
      unfold zLw
      rw [h3]
    show some (sX.next (fR a ((wrL a.devices B.Images S i).set S[i] (zDQ d x)),((i+1:Nat):Int)))=_
    rw [hset]
  · rw [hm]
    simp only
    rw [iz_len,decide_eq_false (by omega:¬ (S.length:Int)<(S.length:Int)),cond_false]
def bQ (L:List zB) (n:Nat):Nat:=zCa n fun i=>match L[i]? with | some d=>d.Active==1 | none=>false
theorem zTf {L:List zB} (h8:L.length≤8) (hb:∀ d∈L,bit d.Active) (m:Int × Int→Option (sX (Int × Int) Int))
    (hm:∀ s2,m s2=bif decide (s2.1<(L.length:Int)) then (bnd (elt L s2.1) fun x4=>bnd (zCK .u8 (IntKind.wrap .u8 x4.Active) s2.1) fun q1=>some (.next (IntKind.wrap .i64 (s2.1+1),iOr .u8 s2.2 q1))) else (some (.done s2.2))):
    yE m (0,0)=some ((bQ L L.length:Nat):Int):=by
  refine pI (m:=m) (fun i=>((i:Int),((bQ L i:Nat):Int))) L.length (fun i hi=>?_) ?_
  · rw [hm]
    simp only
    rw [decide_eq_true (by omega:(i:Int)<(L.length:Int)),cond_true,yV hi,bnd_some]
    have hp:2 ^ i≤128:=by
      have:2 ^ i≤2 ^ 7:=Nat.pow_le_pow_right (by omega) (by omega)
      omega
    have hma:bQ L i<256:=zAD (by omega)
    have hsucc:bQ L (i+1)=if L[i].Active=1 then bQ L i|||2 ^ i else bQ L i:=by
      unfold bQ
      rw [zAB,List.getElem?_eq_getElem hi]
      simp
    rcases hb _ (List.getElem_mem hi) with h0 | h0
    · rw [h0, show IntKind.wrap .u8 0 = ((0 : Nat) : Int) from by decide, zNp (by omega) (by omega), bnd_some, Nat.zero_mul, zDs hma (by decide), zR hi (by omega), hsucc, h0]
      simp
    · rw [h0, show IntKind.wrap .u8 1 = ((1 : Nat) : Int) from by decide, zNp (by omega) (by omega), bnd_some, Nat.one_mul, zDs hma (by omega), zR hi (by omega), hsucc, h0]
      simp
  · rw [hm]
    simp only
    rw [decide_eq_false (by omega:¬ (L.length:Int)<(L.length:Int)),cond_false]
theorem zFa {F:Nat} {G:Nat→Bool}:∀ {l:List Nat} {S:Nat},aD F G S l→l.Nodup∧∀ i∈l,S.testBit i=false
  | [],_,_=>⟨List.nodup_nil,fun i hi=>by cases hi⟩
  | j::l,S,h=>by
    obtain ⟨h1,h2⟩:=h
    obtain ⟨p1,p2,p3⟩:=kR h1
    obtain ⟨q1,q2⟩:=zFa h2
    refine ⟨List.nodup_cons.2 ⟨fun hj=>?_,q1⟩,fun i hi=>?_⟩
    · have := q2 j hj
      rw [zIm] at this
      simp at this
    · rcases List.mem_cons.1 hi with rfl | hi
      · exact p2
      · have := q2 i hi
        rw [zIm] at this
        exact (Bool.or_eq_false_iff.1 this).1
end Go.Proofs.YtplchdlgdjcojaaGreatDoor
end
section
namespace Go.Proofs.YtplchdlgdjcojaaGreatDoor
open Go
set_option linter.unusedVariables false
set_option linter.unusedSimpArgs false
theorem zKY {b:zX} (h:wQ b=0) {i:Nat} (hi:i+1<b.Images.length):Op.bytesLess b.Images[i].Name.toList b.Images[i+1].Name.toList=true:=by
  have h0:=eR h
  unfold wQ at h
  split at h
  · cases h
  · split at h
    · rename_i e he
      exfalso
      obtain ⟨i,_,hi⟩:=List.exists_of_findSome?_eq_some he
      unfold lO at hi
      subst h
      split at hi
      · cases hi
      · split at hi
        · cases hi
        · split at hi
          · cases hi
          · cases hi
    · rename_i he
      have:=List.findSome?_eq_none_iff.1 he (i+1) (List.mem_range.2 hi)
      unfold lO at this
      rw [List.getElem?_eq_getElem hi] at this
      simp only [Nat.add_sub_cancel] at this
      rw [List.getElem?_eq_getElem (by omega)] at this
      rw [if_neg (by rw [h0.2.2.1 _ (List.getElem_mem hi)]; simp)] at this
      simp only [Option.map_some,Option.getD_some] at this
      cases hb:Op.bytesLess b.Images[i].Name.toList b.Images[i+1].Name.toList
      · simp [hb] at this
      · rfl
theorem eL {b:zX} (h:wQ b=0):nV (b.Images.map (·.Name)):=by
  have hlt:∀ (j:Nat) (hj:j<b.Images.length) (i:Nat) (hi:i<j),Op.bytesLess (b.Images[i]'(Nat.lt_trans hi hj)).Name.toList b.Images[j].Name.toList=true:=by
    intro j
    induction j with
    | zero=>intro _ i hi; omega
    | succ j ih=>
      intro hj i hi
      by_cases he:i=j
      · subst he; exact zKY h hj
      · exact zDu _ _ _ (ih (by omega) i (by omega)) (zKY h hj)
  refine List.pairwise_iff_getElem.2 fun i j hi hj hij he=>?_
  rw [List.getElem_map,List.getElem_map] at he
  have:=hlt j (by simpa using hj) i hij
  rw [he,cI] at this
  cases this
theorem zNE {b:List Nat} (h:(pK b).2=0):wQ (pK b).1=0:=by
  unfold pK at h ⊢
  split
  · rename_i h1; rw [if_pos h1] at h; cases h
  · rename_i h1
    rw [if_neg h1] at h
    split
    · rename_i h2; rw [if_pos h2] at h; cases h
    · rename_i h2
      rw [if_neg h2] at h
      split
      · rename_i h3; rw [if_pos h3] at h; cases h
      · rename_i h3
        rw [if_neg h3] at h
        generalize b.take (b.length - 4)=q at*
        unfold zKD at h ⊢
        split
        · rename_i h4; rw [if_pos h4] at h; cases h
        · rename_i h4
          rw [if_neg h4] at h
          cases hp:zDa q with
          | none=>rw [hp] at h; cases h
          | some x=>
            rw [hp] at h
            obtain ⟨imgs,needs,rest⟩:=x
            simp only at h ⊢
            split
            · rename_i h5; rw [if_pos h5] at h; cases h
            · rename_i h5
              rw [if_neg h5] at h
              split
              · rename_i h6; rw [if_pos h6] at h; cases h
              · rename_i h6
                rw [if_neg h6] at h
                split
                · rename_i h7; rw [if_pos h7] at h; exact absurd h h7
                · rename_i h7; exact Classical.byContradiction fun hh=>h7 hh
theorem zLZ (L:List zB):(wR L).map (·.Name)=L.map (·.Name):=by simp [wR,List.map_map,Function.comp_def]
theorem zSn {L:List zB} {l:List zI} {N:List zU} {i:Nat} (h:cX ⟨wR L,sN (wR L) l,N⟩ i=true):∃ d x,L[i]? =some d∧zJi l d.Name=some x:=by
  unfold cX at h
  simp only at h
  by_cases hi:i<L.length
  · have h1 : (wR L)[i]? = some ⟨L[i].Name, gO L[i]⟩ := by rw [wR, List.getElem?_map, List.getElem?_eq_getElem hi]; rfl
    have h2:(sN (wR L) l)[i]? =some ⟨L[i].Name,vOf l L[i].Name (gO L[i])⟩:=by rw [sN,List.getElem?_map,h1]; rfl
    rw [h1,h2] at h
    simp only [zTR] at h
    cases hx:zJi l L[i].Name with
    | none=>rw [hx] at h; simp at h
    | some x=>exact ⟨L[i],x,List.getElem?_eq_getElem hi,hx⟩
  · rw [List.getElem?_eq_none (by simp [wR]; omega)] at h
    cases h
def pM (a:zC) (B:zX):xE:=⟨wR a.devices,sN (wR a.devices) B.Images,a.needs⟩
theorem zKX {now:List zN} {N:List zU} {B:zX} (h:(lW now N B).2=0):lW now N B=(⟨now,sN now B.Images,N⟩,0):=by
  unfold lW at h ⊢
  split
  · rename_i h1
    rw [if_pos h1] at h
    split
    · rfl
    · rename_i h2; rw [if_neg h2] at h; cases h
  · rename_i h1; rw [if_neg h1] at h; cases h
theorem zPS (now:List zN) (N:List zU) (B:zX):(lW now N B).2=0∨(lW now N B).2=8∨(lW now N B).2=42:=by
  unfold lW
  split
  · split
    · exact .inl rfl
    · exact .inr (.inr rfl)
  · exact .inr (.inl rfl)
def nT (a:zC) (B:zX):List zB:=wrL a.devices B.Images (xZ (wR a.devices).length (yU (pM a B))) (xZ (wR a.devices).length (yU (pM a B))).length
theorem zLa (n F:Nat):(xZ n F).Nodup:=List.Pairwise.filter _ List.nodup_range
theorem zHQ {n F k:Nat}:k∈xZ n F↔k<n∧F.testBit k=true:=by
  unfold xZ
  rw [List.mem_filter,List.mem_range]
theorem zIt (a:zC) (B:zX) (i:Nat):(nT a B)[i]? =a.devices[i]?.map fun d=>if (yU (pM a B)).testBit i=true then zLw B.Images d else d:=by
  unfold nT
  rw [zCt,List.take_length]
  cases h:a.devices[i]? with
  | none=>rfl
  | some d=>
    have hi:=(List.getElem?_eq_some_iff.1 h).1
    have:(i∈xZ (wR a.devices).length (yU (pM a B)))↔(yU (pM a B)).testBit i=true:=by
      rw [zHQ]
      simp [wR,hi]
    simp only [Option.map_some,this]
@[simp] theorem com_len (a:zC) (B:zX):(nT a B).length=a.devices.length:=by simp [nT]
theorem zIx {a:zC} (hd:DL a.devices) {B:zX} (hv:wQ B=0) {i:Nat} (hi:(yU (pM a B)).testBit i=true):∃ d x,a.devices[i]? =some d∧zJi B.Images d.Name=some x∧x∈B.Images∧x.Name=d.Name∧(nT a B)[i]? =some (zDQ d x)∧Two (zDQ d x):=by
  rw [zJB] at hi
  obtain ⟨h1,h2⟩:=Bool.and_eq_true_iff.1 hi
  obtain ⟨d,x,h3,h4⟩:=zSn h2
  obtain ⟨k,hk,h5,h6,_⟩:=zLx (eL hv) h4
  have hx:x∈B.Images:=by rw [←h5]; exact List.getElem_mem hk
  refine ⟨d,x,h3,h4,hx,h6,?_,zPz (hd.rdy _ (List.mem_of_getElem? h3)) ((eR hv).2.2.1 x hx) h6⟩
  rw [zIt,h3,Option.map_some,zJB,hi,if_pos rfl]
  unfold zLw
  rw [h4]
theorem zEn {a:zC} (hd:DL a.devices) {B:zX} (hv:wQ B=0):∀ d∈nT a B,Rdy d:=by
  intro d hm
  obtain ⟨i,hi,he⟩:=List.mem_iff_getElem.1 hm
  have h1:(nT a B)[i]? =some d:=by rw [List.getElem?_eq_getElem hi,he]
  by_cases hb:(yU (pM a B)).testBit i=true
  · obtain ⟨_, _, _, _, _, _, h2, h3⟩ := zIx hd hv hb
    rw [h1] at h2
    injection h2 with h2
    rw [h2]
    exact h3.1
  · rw [zIt] at h1
    obtain ⟨d0,h4,h5⟩:=Option.map_eq_some_iff.1 h1
    rw [if_neg hb] at h5
    rw [←h5]
    exact hd.rdy _ (List.mem_of_getElem? h4)
theorem zJb {a:zC} (hd:DL a.devices) {B:zX} (hv:wQ B=0) (hp:sQ (pM a B)=0) {O:List Nat} (hO:eU (pM a B)=some O):oS (nT a B) O (bQ (nT a B) (nT a B).length):=by
  have hpath:=zMn hO
  have h8:=hd.le
  refine ⟨(zFa hpath).1,by rw [com_len]; exact h8,fun i hi=>?_,fun i d h=>?_,zAD (by rw [com_len]; exact h8),zEn hd hv,zMB hp hpath⟩
  · obtain ⟨d, x, _, _, _, _, h1, h2⟩ := zIx hd hv (zHS hpath i hi)
    exact ⟨_,h1,h2⟩
  · have hi := (List.getElem?_eq_some_iff.1 h).1
    have hbit:=(zEn hd hv d (List.mem_of_getElem? h)).vd.ba
    unfold bQ
    rw [zKJ,h,decide_eq_true hi,Bool.true_and]
    rcases hbit with h0 | h0 <;> simp [h0]
theorem zCd {a:zC} (hd:DL a.devices) (hst:a.store=true) (hN:sY a.needs=true) {bb:List Nat} (hb:xV bb) (h1:1≤bb.length) (h2:bb.length≤8192) (s:zD) (d:zA):
    (∃ e,e≠0∧wC (dlA a (iz bb) (wA bb.length)) s d=some (dlA a (iz bb) (wA bb.length),s,d,e)∧
      ((pK bb).2=e∨(pK bb).2=0∧((lW (wR a.devices) a.needs (pK bb).1).2=e∧(e=8∨e=42)∨(lW (wR a.devices) a.needs (pK bb).1).2=0∧uS (pM a (pK bb).1)=some ([],e))))∨
    ((pK bb).2=0∧(lW (wR a.devices) a.needs (pK bb).1).2=0∧sQ (pM a (pK bb).1)=0∧eU (pM a (pK bb).1)=some []∧
      wC (dlA a (iz bb) (wA bb.length)) s d=some (⟨a.store,a.devices,a.needs,0,zPh,a.before,a.order⟩,s,d,0))∨
    ((pK bb).2=0∧(lW (wR a.devices) a.needs (pK bb).1).2=0∧sQ (pM a (pK bb).1)=0∧∃ O,eU (pM a (pK bb).1)=some O∧O≠ []∧
      wC (dlA a (iz bb) (wA bb.length)) s d=bnd (zT s [⟨32,2::(bQ (nT a (pK bb).1) (nT a (pK bb).1).length:Int)::iz O,false⟩] d) fun r=>
        if r.2.2=0 then some (agC (nT a (pK bb).1) a.needs O (bQ (nT a (pK bb).1) (nT a (pK bb).1).length) 0 2,r.1,r.2.1,0)
        else some (⟨true,nT a (pK bb).1,a.needs,1,dl (iz bb) (wA bb.length),(bQ (nT a (pK bb).1) (nT a (pK bb).1).length:Int),iz O⟩,r.1,r.2.1,r.2.2)):=by
  have hbl:(iz bb).length=bb.length:=iz_len bb
  have hlc:wP (dl (iz bb) (wA bb.length))=some true:=by
    rw [←hbl,zHK (by omega) (by omega) (Nat.le_refl _),decide_eq_true rfl]
  have hby:sG (dl (iz bb) (wA bb.length))=some (iz bb,0):=by
    have:=zWB (b:=iz bb) (by omega) (by omega)
    rw [hbl] at this
    exact this
  have hd8:=hd.le
  have hNl:a.needs.length≤16:=of_decide_eq_true (Bool.and_eq_true_iff.1 hN).1
  have pre:∀ (X:Option (zC × zD × zA × Int)),True:=fun _=>trivial
  unfold wC
  have hc1:(bnd ((bif ((dlA a (iz bb) (wA bb.length)).phase != 1) then (some true) else (bnd (wP (dlA a (iz bb) (wA bb.length)).load) fun r1=>some (!r1)):Option Bool)) fun o1=>some o1)=some false:=by
    show (bnd (bnd (wP (dl (iz bb) (wA bb.length))) fun r1=>some (!r1)) fun o1=>some o1)=_
    rw [hlc]
    rfl
  rw [zTr] at hc1
  rw [hc1,bnd_some,cond_false]
  show (∃ e,e≠0∧(bnd (sG (dl (iz bb) (wA bb.length))) _)=_∧_)∨_
  rw [show (dlA a (iz bb) (wA bb.length)).load=dl (iz bb) (wA bb.length) from rfl,hby]
  simp only [bnd_some,bne_self_eq_false,cond_false]
  rw [zKQ hb (by omega)]
  simp only [bnd_some]
  by_cases he:(pK bb).2=0
  case neg=>
    refine .inl ⟨(pK bb).2,he,?_, .inl rfl⟩
    rw [xK (by simpa using he)]
  have hv:=zNE he
  rw [yT (by simpa using he)]
  generalize hB:(pK bb).1=B at*
  obtain ⟨v1,v2,v3,v4,v5⟩:=eR hv
  have hpl:tV (dlA a (iz bb) (wA bb.length)) B=some (lW (wR a.devices) a.needs B):=zTu (a:=dlA a (iz bb) (wA bb.length)) hd8 (by show nV ((wR a.devices).map (·.Name)); rw [zLZ]; exact zFS hd.names) hNl v2 v4 (eL hv)
  rw [hpl,bnd_some]
  by_cases hp:(lW (wR a.devices) a.needs B).2=0
  case neg=>
    refine .inl ⟨(lW (wR a.devices) a.needs B).2,hp,?_, .inr ⟨he, .inl ⟨rfl,?_⟩⟩⟩
    · rw [xK (by simpa using hp)]
    · rcases zPS (wR a.devices) a.needs B with h | h | h
      · exact absurd h hp
      · exact .inl h
      · exact .inr h
  rw [yT (by simpa using hp),zKX hp]
  show (∃ e,e≠0∧(bnd (uS (pM a B)) _)=_∧_)∨_
  rw [show (⟨wR a.devices,sN (wR a.devices) B.Images,a.needs⟩:xE)=pM a B from rfl]
  rw [zLg]
  by_cases hvn:sQ (pM a B)=0
  case neg=>
    rw [if_neg hvn]
    have hne:((sQ (pM a B):Nat):Int)≠0:=by omega
    refine .inl ⟨(sQ (pM a B):Int),hne,?_, .inr ⟨he, .inr ⟨rfl,rfl⟩⟩⟩
    rw [bnd_some,xK (by simpa using hne)]
  rw [if_pos hvn]
  cases hO:eU (pM a B) with
  | none=>
    refine .inl ⟨41,by decide,?_, .inr ⟨he, .inr ⟨rfl,rfl⟩⟩⟩
    rw [bnd_some]
    rfl
  | some O=>
    simp only [bnd_some,bne_self_eq_false,cond_false]
    by_cases hO0:O= []
    · subst hO0
      refine .inr (.inl ⟨he,trivial,hvn,rfl,?_⟩)
      rfl
    refine .inr (.inr ⟨he,trivial,hvn,O,rfl,hO0,?_⟩)
    have hOl:0<O.length:=List.length_pos_iff.2 hO0
    rw [yT (by simp; omega),zSx,if_pos hvn,bnd_some]
    have hord:=zJb hd hv hvn hO
    have hpn:(pM a B).Now.length=(wR a.devices).length:=rfl
    have hsl:(xZ (wR a.devices).length (yU (pM a B))).length≤8:=Nat.le_trans (List.length_filter_le _ _) (by simp [wR]; exact hd8)
    rw [hpn]
    refine yA (zOF (a:=dlA a (iz bb) (wA bb.length)) (B:=B) v2 (eL hv) v3 (zLa _ _) (by omega) (fun k hk=>?_) (fun a' e=>(a',s,d,e)) _ (fun _=>rfl)) ?_
    · obtain ⟨dd, x, q1, q2, _⟩ := zIx hd hv (zHQ.1 hk).2
      exact ⟨dd,x,q1,hd.rdy _ (List.mem_of_getElem? q1),q2⟩
    rw [retOr_inr]
    have hcl:fR (dlA a (iz bb) (wA bb.length)) (wrL (dlA a (iz bb) (wA bb.length)).devices B.Images (xZ (wR a.devices).length (yU (pM a B))) (xZ (wR a.devices).length (yU (pM a B))).length)=fR (dlA a (iz bb) (wA bb.length)) (nT a B):=rfl
    rw [hcl]
    refine yA (zTf (L:=nT a B) (by rw [com_len]; exact hd8) (fun dd hdd=>(zEn hd hv dd hdd).vd.ba) _ (fun _=>rfl)) ?_
    rw [show (2:Int)=((2:Nat):Int) from rfl,zFr (O:=O) rfl hord.len (fun i hi=>by have:=hord.lt hi; rw [com_len] at this; omega) (by decide),bnd_some]
    show bnd (fM a.store) _=_
    rw [hst,show fM true=some true from rfl,bnd_some,zRT]
    show bnd (zT s [⟨32,2::(bQ (nT a B) (nT a B).length:Int)::iz O,false⟩] d) _=_
    cases zT s [⟨32,2::(bQ (nT a B) (nT a B).length:Int)::iz O,false⟩] d with
    | none=>rfl
    | some r=>
      simp only [bnd_some]
      by_cases h1:r.2.2=0
      · rw [if_pos h1, yT (by simpa using h1)]
        unfold agC
        rw [zRv,←hst]
        rfl
      · rw [if_neg h1, xK (by simpa using h1), ← hst]
        rfl
end Go.Proofs.YtplchdlgdjcojaaGreatDoor
end
section
namespace Go.Proofs.YtplchdlgdjcojaaGreatDoor
open Go
set_option linter.unusedVariables false
set_option linter.unusedSimpArgs false
def jK:Option (List Int)→List zF
  | none=> []
  | some x=> [⟨32,x,false⟩]
structure StU (d:zA) (s:zD) (v:Option (List Int)) (g:Nat):Prop where
  sto:Sto d s 0
  left:d.left=0
  K:(openF d 0).K=jK v
  gen:(openF d 0).gen≤g
theorem zRU (v:Option (List Int)) (x:List Int):vI (jK v) [⟨32,x,false⟩]=jK (some x):=by
  cases v <;> rfl
theorem zRx (v:Option (List Int)):vI (jK v) [⟨32, [],true⟩]=jK none:=by
  cases v <;> rfl
theorem zVA {d:zA} {s:zD} {v:Option (List Int)} {g:Nat} (h:StU d s v g) (hg:g<2147483648) {x:List Int} (hx:rng x) (h28:x.length≤28):∃ s' d',zT s [⟨32,x,false⟩] d=some (s',d',0)∧StU d' s' (some x) (g+1):=by
  have hp:okP [⟨32,x,false⟩]:=⟨fun z hz=>by
    rw [List.mem_singleton] at hz
    subst hz
    exact ⟨⟨(by decide:(0:Int)≤32),(by decide:(32:Int)≤255)⟩,hx,h28,fun h=>by cases h⟩,List.pairwise_singleton _ _⟩
  have hk:vI (openF d 0).K [⟨32,x,false⟩]=jK (some x):=by rw [h.K,zRU]
  have hg':=h.gen
  obtain ⟨r,h1,h2,h3,h4,h5,_,h6⟩:=h.sto.sure h.left hp (by simp) (by rw [hk]; simp [jK]) (by omega) (fun _=>by rw [hk]; exact Nat.le_refl 1)
  rw [hk] at h4
  obtain ⟨s',d',e⟩:=r
  simp only at h2
  subst h2
  exact ⟨s',d',h1,h3,h6,h4,by simp only at h5; omega⟩
theorem zXJ {d:zA} {s:zD} {v:Option (List Int)} {g:Nat} (h:StU d s v g) (hg:g<2147483648):∃ s' d',zT s [⟨32, [],true⟩] d=some (s',d',0)∧StU d' s' none (g+1):=by
  have hp:okP [⟨32, [],true⟩]:=⟨fun z hz=>by
    rw [List.mem_singleton] at hz
    subst hz
    exact ⟨⟨(by decide:(0:Int)≤32),(by decide:(32:Int)≤255)⟩,(fun x (hx:x∈ [])=>(List.not_mem_nil hx).elim),Nat.zero_le _,fun _=>rfl⟩,List.pairwise_singleton _ _⟩
  have hk:vI (openF d 0).K [⟨32, [],true⟩]=jK none:=by rw [h.K,zRx]
  have hg':=h.gen
  obtain ⟨r,h1,h2,h3,h4,h5,_,h6⟩:=h.sto.sure h.left hp (by simp) (by rw [hk]; simp [jK]) (by omega) (fun _=>by rw [hk]; decide)
  rw [hk] at h4
  obtain ⟨s',d',e⟩:=r
  simp only at h2
  subst h2
  exact ⟨s',d',h1,h3,h6,h4,by simp only at h5; omega⟩
theorem zNF:mW 2 1024=some (some (zAS 2 1024),0)∧∃ s,xI (zAS 2 1024) 0=some (zAS 2 1024,some s,0)∧StU (zAS 2 1024) s none 0:=by
  have hok:=zTd (n:=2) (m:=1024) (by omega) (by omega)
  obtain ⟨s,o1,o2⟩:=zKo (f:=0) hok rfl (by show (1024:Int)≤1024; omega) (by show 0+1<(List.replicate 2 (0:Int)).length; simp)
  have h0:(openF (zAS 2 1024) 0).K= []:=by rw [zGY (by omega) (by omega)]; rfl
  have g0:(openF (zAS 2 1024) 0).gen=0:=by rw [zGY (by omega) (by omega)]; rfl
  exact ⟨zVf (n:=2) (m:=1024) (by omega) (by omega),s,o1,o2,rfl,h0,by omega⟩
theorem zSI {m:Nat} (hm:m<256) {O:List Nat} (hO:∀ i∈O,i<8) {ph:Int} (hp:0≤ph∧ph≤255):rng (ph::(m:Int)::iz O):=by
  intro x hx
  rcases List.mem_cons.1 hx with h | h
  · subst h; exact hp
  rcases List.mem_cons.1 h with h | h
  · subst h; omega
  · obtain ⟨i, hi, rfl⟩ := List.mem_map.1 h
    have:=hO i hi
    show 0≤(i:Int)∧(i:Int)≤255
    omega
theorem zIG {L:List zB} {N:List zU} {O:List Nat} {m c:Nat} {ph:Int} {s:zD} {d:zA} {v:Option (List Int)} {g:Nat} (h:StU d s v g) (hg:g<2147483648):
    ∃ s' d',zEf L N O m c ph s d=some (agE L N O m c,s',d',0)∧StU d' s' none (g+1):=by
  obtain ⟨s',d',h1,h2⟩:=zXJ h hg
  refine ⟨s',d',?_,h2⟩
  unfold zEf
  rw [h1,bnd_some]
  rfl
def fN (ph:Int) (m:Nat) (O:List Nat):List Int:=ph::(m:Int)::iz O
theorem oS.rngJ {L:List zB} {O:List Nat} {m:Nat} (h:oS L O m) {ph:Int} (hp:0≤ph∧ph≤255):rng (fN ph m O)∧(fN ph m O).length≤28:=⟨zSI h.small (fun i hi=>by have:=h.lt hi; have:=h.le; omega) hp,by have:=h.len; simp [fN,iz]; omega⟩
theorem zUh {L:List zB} {N:List zU} {O:List Nat} {m:Nat} (h:oS L O m) {c:Nat} {ph:Int} (hph:ph=2∧c<O.length∨ph=3∧0<c∧c≤O.length) {s:zD} {d:zA} {g:Nat} (hs:StU d s (some (fN ph m O)) g) (hg:g<2147483647) (b:Bool):
    ∃ a' s' d' k,yY (agC L N O m c ph) b s d=some (a',s',d',k,0)∧
      (ph=2∧b=true∧c+1<O.length∧a'=agC L N O m (c+1) 2∧StU d' s' (some (fN 2 m O)) (g+1)∨
       ph=2∧b=true∧c+1=O.length∧a'=agE L N O m (c+1)∧StU d' s' none (g+1)∨
       ph=2∧b=false∧c=0∧a'=agE L N O m 0∧StU d' s' none (g+1)∨
       ph=2∧b=false∧0<c∧a'=agC L N O m c 3∧StU d' s' (some (fN 3 m O)) (g+1)∨
       ph=3∧1<c∧a'=agC L N O m (c - 1) 3∧StU d' s' (some (fN 3 m O)) (g+1)∨
       ph=3∧c=1∧a'=agE L N O m 0∧StU d' s' none (g+1)):=by
  have up:∀ {v:Option (List Int)},StU d s v g→StU d s v (g+1):=fun h=>⟨h.sto,h.left,h.K,by have:=h.gen; omega⟩
  rcases hph with ⟨rfl,hc⟩ | ⟨rfl,h0,hc⟩
  · cases b with
    | true=>
      rw [zFA h hc]
      by_cases hl:c+1<O.length
      · rw [if_pos hl]
        exact ⟨_,_,_,_,rfl, .inl ⟨rfl,rfl,hl,rfl,up hs⟩⟩
      · rw [if_neg hl]
        obtain ⟨s',d',h1,h2⟩:=zIG (L:=L) (N:=N) (O:=O) (m:=m) (c:=c+1) (ph:=2) hs (by omega)
        rw [h1,bnd_some]
        exact ⟨_,_,_,_,rfl, .inr (.inl ⟨rfl,rfl,by omega,rfl,h2⟩)⟩
    | false=>
      rw [zUe h hc]
      by_cases h0:c=0
      · subst h0
        rw [if_pos rfl]
        obtain ⟨s',d',h1,h2⟩:=zIG (L:=L) (N:=N) (O:=O) (m:=m) (c:=0) (ph:=2) hs (by omega)
        rw [h1,bnd_some]
        exact ⟨_,_,_,_,rfl, .inr (.inr (.inl ⟨rfl,rfl,rfl,rfl,h2⟩))⟩
      · rw [if_neg h0]
        obtain ⟨q1,q2⟩:=h.rngJ (ph:=3) (by omega)
        obtain ⟨s',d',h1,h2⟩:=zVA hs (by omega) q1 q2
        rw [show (3::(m:Int)::iz O)=fN 3 m O from rfl,h1,bnd_some]
        exact ⟨_,_,_,_,if_pos rfl, .inr (.inr (.inr (.inl ⟨rfl,rfl,by omega,rfl,h2⟩)))⟩
  · obtain ⟨c, rfl⟩ : ∃ e, c = e + 1 := ⟨c - 1, by omega⟩
    rw [zSk h (by omega)]
    by_cases hl:0<c
    · rw [if_pos hl]
      exact ⟨_,_,_,_,rfl, .inr (.inr (.inr (.inr (.inl ⟨rfl,by omega,rfl,up hs⟩))))⟩
    · rw [if_neg hl]
      obtain rfl:c=0:=by omega
      obtain ⟨s',d',h1,h2⟩:=zIG (L:=L) (N:=N) (O:=O) (m:=m) (c:=0) (ph:=3) hs (by omega)
      rw [h1,bnd_some]
      exact ⟨_,_,_,_,rfl, .inr (.inr (.inr (.inr (.inr ⟨rfl,rfl,rfl,h2⟩))))⟩
end Go.Proofs.YtplchdlgdjcojaaGreatDoor
end
section
namespace Go.Proofs.YtplchdlgdjcojaaGreatDoor
open Go
set_option linter.unusedVariables false
set_option linter.unusedSimpArgs false
theorem zLp {d:zB} (h:Rdy d) (h0:d.Active=0):gO d=d.Slots.e0.Image.Version:=by
  unfold gO
  rw [(qK d).2 h.vd,cond_true,h.run,h0]
  rfl
end Go.Proofs.YtplchdlgdjcojaaGreatDoor
end
section
namespace Go.Proofs.YtplchdlgdjcojaaGreatDoor
open Go
set_option linter.unusedVariables false
set_option linter.unusedSimpArgs false
def gZ:zX:=⟨[⟨⟨#[98,105,111,115]⟩,⟨2,0,0⟩, [2]⟩,⟨⟨#[109,101]⟩,⟨2,0,0⟩, [2]⟩], []⟩
def oC:List zU:= [⟨⟨#[98,105,111,115]⟩,⟨2,0,0⟩,⟨#[109,101]⟩,⟨2,0,0⟩⟩]
def iC:List zB:= [(zBS ⟨⟨#[98,105,111,115]⟩,⟨1,0,0⟩, [1]⟩).1,(zBS ⟨⟨#[109,101]⟩,⟨1,0,0⟩, [1]⟩).1]
def bK:List zN:= [⟨⟨#[98,105,111,115]⟩,⟨1,0,0⟩⟩,⟨⟨#[109,101]⟩,⟨1,0,0⟩⟩]
theorem bI:wQ gZ=0:=by decide+kernel
theorem zFE:zGG gZ:=by
  intro x hx
  simp only [gZ,List.mem_cons,List.not_mem_nil,or_false] at hx
  rcases hx with rfl | rfl <;> exact zIO (by omega)
theorem zEB:zUU iC:=by
  have h1:=zMh (n:=⟨#[98,105,111,115]⟩) (v:=1) (x:=1) (by decide+kernel) (by omega)
  have h2:=zMh (n:=⟨#[109,101]⟩) (v:=1) (x:=1) (by decide+kernel) (by omega)
  refine ⟨⟨by simp [iC],by simp [iC],?_,fun d hd=>?_⟩,fun d hd=>?_⟩
  · unfold iC
    rw [List.map_cons,List.map_cons,List.map_nil]
    rw [h1.2.2,h2.2.2]
    decide+kernel
  · simp only [iC, List.mem_cons, List.not_mem_nil, or_false] at hd
    rcases hd with rfl | rfl
    · exact h1.1
    · exact h2.1
  · simp only [iC, List.mem_cons, List.not_mem_nil, or_false] at hd
    rcases hd with rfl | rfl
    · exact h1.2.1
    · exact h2.2.1
theorem zGX:wR iC=bK:=by
  have h1:=zEB.1.rdy
  have h2:=zEB.2
  have r1:wM ⟨⟨#[98,105,111,115]⟩,⟨1,0,0⟩, [1]⟩=true:=by decide+kernel
  have r2:wM ⟨⟨#[109,101]⟩,⟨1,0,0⟩, [1]⟩=true:=by decide+kernel
  unfold wR iC
  rw [List.map_cons,List.map_cons,List.map_nil]
  rw [zLp (h1 _ (by simp [iC])) (h2 _ (by simp [iC])),zLp (h1 _ (by simp [iC])) (h2 _ (by simp [iC]))]
  unfold zBS
  rw [r1,r2]
  rfl
theorem zXp:lW bK oC gZ=(⟨bK,sN bK gZ.Images,oC⟩,0):=zKX (by decide+kernel)
theorem zVI:sQ ⟨bK,sN bK gZ.Images,oC⟩=0:=by decide+kernel
theorem zVo:eU ⟨bK,sN bK gZ.Images,oC⟩=some [1,0]:=by decide+kernel
theorem zXK:(kI gZ).length=44:=by decide+kernel
theorem zTF:jI=some true:=by
  obtain ⟨n1,s,n2,hS⟩:=zNF
  have hL:=zEB
  have hN:sY oC=true:=by decide+kernel
  have hop:=zFj hL.1 (N:=oC) hN hS.sto (by rw [hS.K]; rfl)
  have hE:tR gZ=some (iz (kI gZ),0):=by rw [zKE,zOr bI,zEr bI zFE]
  have hl:=zXK
  have hlt:xV (kI gZ):=by
    obtain ⟨b,q1,q2,q3⟩:=zHq zFE
    have:=zNw bI zFE
    rw [zOr bI,zEr bI zFE] at q3
    have hz:kI gZ=b:=by
      have hinj:∀ (x y:List Nat),iz x=iz y→x=y:=fun x y h=>by have:=congrArg (List.map Int.toNat) h; simpa [iz,List.map_map,Function.comp_def] using this
      exact hinj _ _ q3
    rw [hz]
    exact q1
  have hdec:pK (kI gZ)=(gZ,0):=zNw bI zFE
  generalize kI gZ=bb at*
  unfold jI
  rw [n1,bnd_some]
  generalize zAS 2 1024=D at*
  show bnd (xI D 0) _=_
  rw [n2,bnd_some]
  refine yA (zKW (by simp [small])) ?_
  refine yA (zKW (by simp [small])) ?_
  show bnd (xS s iC oC D) _=_
  rw [hop,bnd_some]
  show bnd (tR gZ) _=_
  rw [hE,bnd_some]
  show bnd (bif decide (((iz bb).length:Int)<1) then (some true) else (some (decide (((iz bb).length:Int)>128)))) _=_
  have hz:(iz bb).length=44:=by rw [iz_len,hl]
  rw [decide_eq_false (by omega),cond_false,bnd_some,decide_eq_false (by omega),cond_false]
  show bnd (wK (ag0 iC oC) ((iz bb).length:Int) 64) _=_
  rw [zKZ (.inl rfl) (by omega) (by omega),bnd_some]
  have hc1:wA (iz bb).length=1:=by rw [hz]; rfl
  have hsg:=zOd (b:=iz bb) (k:=0) (by omega) (by omega)
  refine yA hsg ?_
  refine yA (zNO (ag0 iC oC) (b:=iz bb) (k:=0) (by omega) (by omega) (by omega)) ?_
  rw [decide_eq_false (by omega:¬ ((iz bb).length:Int)>64),cond_false,bnd_some]
  have hcm:=zCd (a:=ag0 iC oC) hL.1 rfl hN hlt (by omega) (by omega) s D
  rw [hdec] at hcm
  have hcb:wA bb.length=0+1:=by rw [hl]; rfl
  rw [hcb] at hcm
  have hpo:pM (ag0 iC oC) gZ=⟨bK,sN bK gZ.Images,oC⟩:=by
    show (⟨wR iC,sN (wR iC) gZ.Images,oC⟩:xE)=_
    rw [zGX]
  have hpf:lW (wR (ag0 iC oC).devices) (ag0 iC oC).needs gZ=(⟨bK,sN bK gZ.Images,oC⟩,0):=by
    show lW (wR iC) oC gZ=_
    rw [zGX,zXp]
  have hv:=zVI
  have ho:=zVo
  rw [←hpo] at hv ho
  simp only [hpf] at hcm
  rcases hcm with ⟨e,he,q1,q2⟩ | ⟨q1,q2,q3,q4,q5⟩ | ⟨q1,q2,q3,O,q4,q5,q6⟩
  · exfalso
    rcases q2 with q2 | ⟨_,⟨q2,_⟩ | ⟨_,q2⟩⟩
    · exact he q2.symm
    · exact he q2.symm
    · rw [zLg, if_pos hv, ho] at q2
      injection q2 with q2
      injection q2 with q2 q3
      cases q2
  · rw [ho] at q4
    cases q4
  · rw [ho] at q4
    obtain rfl: [1,0]=O:=Option.some.inj q4
    have hord:=zJb (a:=ag0 iC oC) hL.1 bI hv ho
    generalize hLL:nT (ag0 iC oC) gZ=LL at*
    obtain ⟨w1,w2⟩:=hord.rngJ (ph:=2) (by omega)
    obtain ⟨s',d',p1,p2⟩:=zVA hS (by omega) w1 w2
    unfold fN at p1
    rw [p1,bnd_some] at q6
    have q7:wC (dlA (ag0 iC oC) (iz bb) (0+1)) s D=some (agC LL oC [1,0] (bQ LL LL.length) 0 2,s',d',0):=q6
    refine yA q7 ?_
    have s1:=zFA (N:=oC) hord (c:=0) (by decide) s' d'
    rw [if_pos (by decide)] at s1
    refine yA s1 ?_
    have s2:=zFA (N:=oC) hord (c:=0+1) (by decide) s' d'
    rw [if_neg (by decide)] at s2
    obtain ⟨s3,d3,t1,t2⟩:=zIG (L:=LL) (N:=oC) (O:= [1,0]) (m:=bQ LL LL.length) (c:=0+1+1) (ph:=2) p2 (by omega)
    rw [t1,bnd_some] at s2
    refine yA s2 ?_
    rfl
end Go.Proofs.YtplchdlgdjcojaaGreatDoor
end
section
namespace Go.Proofs.YtplchdlgdjcojaaGreatDoor
open Go
set_option linter.unusedVariables false
set_option linter.unusedSimpArgs false
theorem zLn {l:List Int} (hl:l.length≤1000) (v:Int):uC l v=some (decide (v∈l)):=by
  unfold uC
  suffices h:∃ r,tH l v=some r∧decide (r≥0)=decide (v∈l) by
    obtain ⟨r,h1,h2⟩:=h
    rw [h1,bnd_some,h2]
  unfold tH
  rcases cU l (fun x=>v==x) (fun i _=>(.inl (i:Int):Int ⊕ Unit)) (fun i=>match l[i]? with | some x=>if (v==x)=true then some (.inl (i:Int)) else none | none=>none) (fun i hi=>by rw [List.getElem?_eq_getElem hi]) with ⟨i,hi,h1,h2,h3⟩ | ⟨h1,h2,h3⟩
  · refine ⟨(i : Int), ?_, ?_⟩
    · refine rW (fun (i : Nat) => (i : Int)) l.length (fun i => match l[i]? with | some x => if (v == x) = true then some (.inl (i : Int)) else none | none => none) (.inr ()) rfl (fun i hi => ?_) ?_ (by rw [h3]; rfl)
      · have d0 : decide ((i : Int) < (l.length : Int)) = true := by simp; omega
        simp only [d0,cond_true,yV hi,bnd_some,zR hi (by omega),List.getElem?_eq_getElem hi]
        cases (v==l[i]) <;> rfl
      · have d0 : decide ((l.length : Int) < (l.length : Int)) = false := by simp
        simp only [d0,cond_false]
    · have e1 : v = l[i] := eq_of_beq h1
      have hmem:v∈l:=by rw [e1]; exact List.getElem_mem hi
      simp [hmem]
  · refine ⟨-1, ?_, ?_⟩
    · refine rW (fun (i : Nat) => (i : Int)) l.length (fun i => match l[i]? with | some x => if (v == x) = true then some (.inl (i : Int)) else none | none => none) (.inr ()) rfl (fun i hi => ?_) ?_ (by rw [h3]; rfl)
      · have d0 : decide ((i : Int) < (l.length : Int)) = true := by simp; omega
        simp only [d0,cond_true,yV hi,bnd_some,zR hi (by omega),List.getElem?_eq_getElem hi]
        cases (v==l[i]) <;> rfl
      · have d0 : decide ((l.length : Int) < (l.length : Int)) = false := by simp
        simp only [d0,cond_false]
    · have hmem : v ∉ l := fun hv => by
        have:=h2 v hv
        simp at this
      simp [hmem]
theorem zOE (L:List zB) (O:List Nat) (c:Nat):(stL L O c).map (·.Name)=L.map (·.Name):=by
  refine List.ext_getElem? fun i=>?_
  rw [List.getElem?_map,List.getElem?_map,jF]
  cases L[i]? with
  | none=>rfl
  | some d=>
    simp only [Option.map_some]
    split <;> rfl
theorem zUi {L:List zB} {O:List Nat} {m:Nat} (h:oS L O m) (c:Nat):∀ d∈stL L O c,Rdy d:=by
  intro d hd
  obtain ⟨i,hi⟩:=List.getElem?_of_mem hd
  rw [jF] at hi
  obtain ⟨e,he,hde⟩:=Option.map_eq_some_iff.1 hi
  split at hde
  · rename_i hm
    obtain ⟨e',h1,h2⟩:=h.mem i (List.mem_of_mem_take hm)
    rw [he] at h1
    injection h1 with h1
    subst h1; subst hde
    exact (zJO h2).1
  · subst hde
    exact h.rdy _ (List.mem_of_getElem? he)
theorem zMV {L:List zB} {O:List Nat} {m:Nat} (hL:DL L) (h:oS L O m) (c:Nat):DL (stL L O c):=
  ⟨by rw [stL_len]; exact hL.pos,by rw [stL_len]; exact hL.le,by rw [zOE]; exact hL.names,zUi h c⟩
theorem zUp {L:List zB} {N:List zU} {O:List Nat} (hnd:O.Nodup) (hO:∀ i∈O,i<L.length) (h8:L.length≤8) (hl:O.length≤8) {m:Nat} (hm:m<256) {ph:Int} (hph:ph=2∨ph=3):
    uI (ag0 L N) (fN ph m O)=some (⟨true,L,N,ph,zPh,(m:Int),iz O⟩,true):=by
  unfold uI
  have hjl:(fN ph m O).length=O.length+2:=by simp [fN]
  have hw:IntKind.wrap .i64 ph=ph:=yQ (by omega) (by omega)
  have e0:elt (fN ph m O) 0=some ph:=rfl
  have e1:elt (fN ph m O) 1=some (m:Int):=rfl
  have es:sub (fN ph m O) 2 ((fN ph m O).length:Int)=some (iz O):=by
    unfold sub
    rw [if_pos ⟨by omega,by omega,by omega⟩]
    simp only [Int.toNat_natCast,List.take_length]
    rfl
  rw [decide_eq_false (by omega),cond_false,e0,bnd_some,e1,bnd_some,hw,show (!(ph==2||(ph==3||false)))=false by rcases hph with rfl | rfl <;> rfl,cond_false,es,bnd_some]
  refine xT (fun i=>((i:Int),iz (O.take i))) O.length (.inr (iz O)) rfl (fun i hi=>?_) ?_ rfl
  · have hlt := hO _ (List.getElem_mem hi)
    have hn:¬ ((O[i]:Nat):Int)∈iz (O.take i):=fun hh=>by
      obtain ⟨x,hx,e⟩:=List.mem_map.1 hh
      have:x=O[i]:=by exact Int.ofNat.inj e
      rw [this] at hx
      exact absurd ((wX hnd hi i).1 hx) (by omega)
    rw [iz_len,decide_eq_true (by omega:(i:Int)<(O.length:Int)),cond_true,eX hi,bnd_some,yZ (by omega)]
    rw [decide_eq_false (by show ¬ ((O[i]:Nat):Int)≥(L.length:Int); omega),cond_false,zLn (by simp; omega),bnd_some,decide_eq_false hn,bnd_some,cond_false,uT (by simp; omega) (by simp; omega),bnd_some,zR hi (by omega),xB hi,←lM]
    rfl
  · simp only
    rw [iz_len,decide_eq_false (by omega:¬ (O.length:Int)<(O.length:Int)),cond_false,List.take_length]
theorem zPd {L:List zB} {N:List zU} {O:List Nat} {m:Nat} (hL:DL L) (h:oS L O m) (hN:sY N=true) {c:Nat} {ph:Int} (hc:ph=2∧c<O.length∨ph=3∧0<c∧c≤O.length) {s:zD} {d:zA} {g:Nat} (hS:StU d s (some (fN ph m O)) g):
    xS s (stL L O c) N d=some (s,d,some (agC L N O m c ph),0):=by
  have hD:=zMV hL h c
  rw [zKg hD.pos hD.le hD.names (fun d hd=>⟨(hD.rdy d hd).vd,(hD.rdy d hd).sm⟩) hN,zXe hS.sto.rel hS.sto.okK,bnd_some,hS.K,zLm hD.rdy]
  have e1:nQ (jK (some (fN ph m O))) 32=some (fN ph m O):=rfl
  rw [e1]
  show bnd (uI (ag0 (stL L O c) N) (fN ph m O)) _=_
  rw [zUp h.nd (fun i hi=>by rw [stL_len]; exact h.lt hi) hD.le h.len h.small (by omega),bnd_some]
  show bnd (yW (agC L N O m c ph) s d) _=_
  rcases hc with ⟨rfl,hc⟩ | ⟨rfl,h0,hc⟩
  · rw [zOm h,if_pos hc]; rfl
  · rw [zNW h hc,if_pos h0]; rfl
theorem zOY {L:List zB} {N:List zU} (hL:DL L) (hN:sY N=true) {s:zD} {d:zA} {g:Nat} (hS:StU d s none g):xS s L N d=some (s,d,some (ag0 L N),0):=
  zFj hL hN hS.sto (by rw [hS.K]; rfl)
theorem StU.again {d:zA} {s:zD} {v:Option (List Int)} {g:Nat} (h:StU d s v g):∃ s',xI d 0=some (d,some s',0)∧StU d s' v g:=by
  obtain ⟨s',h1,h2⟩:=zKo (f:=0) h.sto.ok h.sto.down h.sto.size h.sto.first
  exact ⟨s',h1,h2,h.left,h.K,h.gen⟩
theorem zSl {c:xQ} (hc:vG c):∃ c' L N s bb,jB c=some (c',zAS 2 1024,ag0 L N,iz bb,N,s)∧vG c'∧zUU L∧L.length≤4∧zUO L N∧StU (zAS 2 1024) s none 0∧xV bb∧bb.length≤8192:=by
  obtain ⟨r1,e2,hc3,hL,h4⟩:=zKb hc (most:=4) (by omega) (by omega)
  obtain ⟨r2,e3,hc4,hN⟩:=zSE hc3 hL.1
  obtain ⟨r9,e9,hc9,hb9⟩:=zRM hc4 hL.1.le (N:=r2.2) (by have:=hN.len; omega)
  obtain ⟨n1,s,n2,hS⟩:=zNF
  have hop:=zFj hL.1 (N:=r2.2) hN.ok hS.sto (by rw [hS.K]; rfl)
  obtain ⟨bb,hb,hbl,hbe⟩:=hb9
  refine ⟨r9.1,r1.2,r2.2,s,bb,?_,hc9,hL,h4,hN,hS,hb,hbl⟩
  unfold jB
  rw [show (4:Int)=((4:Nat):Int) from rfl,e2,bnd_some,e3,bnd_some,n1,bnd_some]
  generalize zAS 2 1024=D at*
  show bnd (xI D 0) _=_
  rw [n2,bnd_some]
  show bnd (xS s r1.2 r2.2 D) _=_
  rw [hop,bnd_some]
  show bnd (pV r2.1 r1.2 r2.2) _=_
  rw [e9,bnd_some,hbe]
theorem zTB {a:zC} (hp:a.phase=0∨a.phase=1) {b:List Int} (h1:1≤b.length) (h2:b.length≤8192):nJ a b=some (dlA a b (wA b.length),true):=by
  unfold nJ
  rw [zKZ hp h1 h2,bnd_some]
  simp only [bne_self_eq_false,cond_false]
  refine yA (zTK (τ:=(zC × Bool) ⊕ zC) a h1 h2 (fun a _=>.done (.inl (a,false))) (fun a=>.inr a) _ (fun s1=>rfl)) ?_
  rw [retOr_inr]
  have hw:sT (dlA a b (wA b.length)) 1=some []:=by
    unfold sT
    show bnd (rH (dl b (wA b.length)) 1) _=_
    rw [zTq h1 h2,bnd_some]
  rw [hw,bnd_some]
  rfl
theorem zQv {a:zC} (hp:a.phase=0∨a.phase=1):nJ a []=some (a,false):=by
  unfold nJ
  rw [zPO hp,bnd_some]
  rfl
theorem zDB {l:List zB} (h:l.length≤1000):uJ l l=some true:=by
  unfold uJ
  rw [show ((l.length:Int) != (l.length:Int))=false by simp,cond_false]
  refine xT (fun i=>(i:Int)) l.length (.inr ()) rfl (fun i hi=>?_) ?_ rfl
  · rw [decide_eq_true (by omega:(i:Int)<(l.length:Int)),cond_true,yV hi,bnd_some,bnd_some,zOH,bnd_some,Bool.not_true,cond_false,zR hi (by omega)]
  · rw [decide_eq_false (by omega:¬ (l.length:Int)<(l.length:Int)),cond_false]
theorem zPc (l:List zI) (d:zB):(zLw l d).Name=d.Name:=by
  unfold zLw
  cases zJi l d.Name <;> rfl
theorem zPP (a:zC) (B:zX):(nT a B).map (·.Name)=a.devices.map (·.Name):=by
  refine List.ext_getElem? fun i=>?_
  rw [List.getElem?_map,List.getElem?_map,zIt]
  cases a.devices[i]? with
  | none=>rfl
  | some d=>
    simp only [Option.map_some]
    split
    · rw [zPc]
    · rfl
theorem zWE {a:zC} (hd:DL a.devices) {B:zX} (hv:wQ B=0):DL (nT a B):=
  ⟨by rw [com_len]; exact hd.pos,by rw [com_len]; exact hd.le,by rw [zPP]; exact hd.names,zEn hd hv⟩
theorem oS.few {L:List zB} {O:List Nat} {m:Nat} (h:oS L O m):O.length≤L.length:=by
  have:=h.nd.length_le_of_subset (l₂:=List.range L.length) (fun i hi=>List.mem_range.2 (h.lt hi))
  simpa using this
theorem zNc {a:zC} (h:DL a.devices):yO a=some a.devices:=
  zTv (by have:=h.le; omega) fun d hd=>(h.rdy d hd).sm
end Go.Proofs.YtplchdlgdjcojaaGreatDoor
end
section
namespace Go.Proofs.YtplchdlgdjcojaaGreatDoor
open Go
set_option linter.unusedVariables false
set_option linter.unusedSimpArgs false
def zGD (L:List zB) (N:List zU) (O:List Nat) (m g j:Nat) (a:zC) (s:zD) (d:zA):Prop:=
  (∃ c ph,oS L O m∧DL L∧O.length≤4∧(ph=2∧c<O.length∧j=c∨ph=3∧0<c∧c≤O.length∧j+c≤8)∧a=agC L N O m c ph∧StU d s (some (fN ph m O)) (g+j))∨
    (a.phase=0∧DL a.devices∧StU d s none (g+j)∧j≤8)
theorem zUl {L:List zB} {N:List zU} {O:List Nat} {m g j:Nat} (hN:sY N=true) {a:zC} {s:zD} {d:zA} (h:zGD L N O m g j a s d):
    ∃ a' s',((bnd (yO a) fun r6=>bnd (yN a) fun r7=>bnd (xI d 0) fun r8=>aA r8.2.1 (none) (fun q1=>bnd (xS q1 r6 N r8.1) fun r9=>aA r9.2.2.1 (bnd ((bif (r8.2.2 != 0) then (some ()) else (bif (r9.2.2.2 != 0) then (some ()) else (some ())):Option Unit)) fun o6=>some (.inl false)) (fun q2=>bnd ((bif (r8.2.2 != 0) then (some true) else (bif (r9.2.2.2 != 0) then (some true) else (bnd (yN q2) fun r10=>bif (r10 != r7) then (some true) else (bnd (yO q2) fun r11=>bnd (uJ r11 r6) fun r12=>some (!r12)))):Option Bool)) fun o7=>bif o7 then (some (.inl false)) else (some (.inr ((q2,r9.1),r9.2.1)))))):Option (Bool ⊕ ((zC × zD) × zA)))=some (.inr ((a',s'),d))∧zGD L N O m g j a' s' d:=by
  rcases h with ⟨c,ph,ho,hL,h4,hc,rfl,hS⟩ | ⟨hp,hD,hS,hj⟩
  · have hD := zMV hL ho c
    have hdv:yO (agC L N O m c ph)=some (stL L O c):=zNc (a:=agC L N O m c ph) hD
    obtain ⟨s',e1,hS'⟩:=hS.again
    have e2:=zPd (N:=N) (c:=c) (ph:=ph) hL ho hN (by rcases hc with ⟨a,b,_⟩ | ⟨a,b,c,_⟩; exact .inl ⟨a,b⟩; exact .inr ⟨a,b,c⟩) hS'
    refine ⟨agC L N O m c ph,s',?_, .inl ⟨c,ph,ho,hL,h4,hc,rfl,hS'⟩⟩
    rw [hdv,bnd_some,gJ,bnd_some,e1,bnd_some]
    show bnd (xS s' (stL L O c) N d) _=_
    rw [e2,bnd_some]
    simp only [aA,bne_self_eq_false,cond_false]
    rw [gJ,bnd_some]
    simp only [bne_self_eq_false,cond_false]
    rw [hdv,bnd_some,zDB (by have:=hD.le; omega),bnd_some]
    rfl
  · have hdv := zNc hD
    obtain ⟨s',e1,hS'⟩:=hS.again
    have e2:=zOY (N:=N) hD hN hS'
    refine ⟨ag0 a.devices N,s',?_, .inr ⟨rfl,hD,hS',hj⟩⟩
    rw [hdv,bnd_some,gJ,bnd_some,e1,bnd_some]
    show bnd (xS s' a.devices N d) _=_
    rw [e2,bnd_some]
    simp only [aA,bne_self_eq_false,cond_false]
    rw [gJ,bnd_some,hp]
    simp only [show (ag0 a.devices N).phase=0 from rfl,bne_self_eq_false,cond_false]
    rw [zNc (a:=ag0 a.devices N) hD,bnd_some]
    show bnd (bnd (uJ a.devices a.devices) _) _=_
    rw [zDB (by have:=hD.le; omega),bnd_some]
    rfl
theorem zRq {L:List zB} {N:List zU} {O:List Nat} {m g j:Nat} {a:zC} {s:zD} {d:zA} (h:zGD L N O m g j a s d) (hg:g<1000) (h0:a.phase≠0) (b:Bool):
    ∃ a' s' d' k,yY a b s d=some (a',s',d',k,0)∧zGD L N O m g (j+1) a' s' d'∧j<8:=by
  rcases h with ⟨c,ph,ho,hL,h4,hc,rfl,hS⟩ | ⟨hp,_⟩
  · obtain ⟨a', s', d', k, e1, e2⟩ := zUh (N := N) ho (by rcases hc with ⟨a, b, _⟩ | ⟨a, b, c, _⟩; exact .inl ⟨a, b⟩; exact .inr ⟨a, b, c⟩) hS (by omega) b
    refine ⟨a',s',d',k,e1,?_,by omega⟩
    unfold zGD
    rw [←Nat.add_assoc]
    rcases e2 with ⟨rfl,rfl,z1,rfl,z2⟩ | ⟨rfl,rfl,z1,rfl,z2⟩ | ⟨rfl,rfl,z1,rfl,z2⟩ | ⟨rfl,rfl,z1,rfl,z2⟩ | ⟨rfl,z1,rfl,z2⟩ | ⟨rfl,z1,rfl,z2⟩
    all_goals first
      | exact .inl ⟨_,_,ho,hL,h4, .inl ⟨rfl,by omega,by omega⟩,rfl,z2⟩
      | exact .inl ⟨_,_,ho,hL,h4, .inr ⟨rfl,by omega,by omega,by omega⟩,rfl,z2⟩
      | exact .inr ⟨rfl,zMV hL ho _,z2,by omega⟩
  · exact absurd hp h0
theorem zWp {L:List zB} {N:List zU} {O:List Nat} {m g j:Nat} {a:zC} {s:zD} {d:zA} (h:zGD L N O m g j a s d):j≤8:=by
  rcases h with ⟨c,ph,ho,hL,h4,hc,_⟩ | ⟨_,_,_,hj⟩ <;> omega
theorem zND {L:List zB} {N:List zU} {O:List Nat} {m g:Nat} (hg:g<1000) (hN:sY N=true) (at_p1:Int) (f:zA × (zC × zD) × Int × List Int × Int→Option (sX (zA × (zC × zD) × Int × List Int × Int) (Bool ⊕ (zA × (zC × zD) × List Int × Int))))
    (hm:∀ s1,f s1=bif decide (s1.2.2.1<9) then (bnd ((bif (s1.2.2.1==(IntKind.wrap .i64 (at_p1.tmod 9))) then (bnd (yO s1.2.1.1) fun r6=>bnd (yN s1.2.1.1) fun r7=>bnd (xI s1.1 0) fun r8=>aA r8.2.1 (none) (fun q1=>bnd (xS q1 r6 N r8.1) fun r9=>aA r9.2.2.1 (bnd ((bif (r8.2.2 != 0) then (some ()) else (bif (r9.2.2.2 != 0) then (some ()) else (some ())):Option Unit)) fun o6=>some (.inl false)) (fun q2=>bnd ((bif (r8.2.2 != 0) then (some true) else (bif (r9.2.2.2 != 0) then (some true) else (bnd (yN q2) fun r10=>bif (r10 != r7) then (some true) else (bnd (yO q2) fun r11=>bnd (uJ r11 r6) fun r12=>some (!r12)))):Option Bool)) fun o7=>bif o7 then (some (.inl false)) else (some (.inr ((q2,r9.1),r9.2.1)))))) else (some (.inr ((s1.2.1.1,s1.2.1.2),s1.1))):Option (Bool ⊕ ((zC × zD) × zA)))) fun o4=>zIZ (fun r_=>(.done (.inl r_))) o4 fun o5=>bnd (yN o5.1.1) fun r13=>bif (r13==0) then (some (.done (.inr (o5.2,(o5.1.1,o5.1.2),s1.2.2.2.1,s1.2.2.2.2)))) else (bnd (yG (⟨s1.2.2.2.1,s1.2.2.2.2⟩:xQ) 4) fun r14=>bnd (yY o5.1.1 (decide (r14.2<3)) o5.1.2 o5.2) fun r15=>bif (r15.2.2.2.2 != 0) then (some (.done (.inl false))) else (some (.next (r15.2.2.1,(r15.1,r15.2.1),IntKind.wrap .i64 (s1.2.2.1+1),r14.1.L,r14.1.At))))) else (some (.done (.inr (s1.1,(s1.2.1.1,s1.2.1.2),s1.2.2.2.1,s1.2.2.2.2)))))
    {a:zC} {s:zD} {d:zA} {c:xQ} (hc:vG c) (h:zGD L N O m g 0 a s d):∃ y,yE f (d,(a,s),0,c.L,c.At)=some (.inr y)∧y.2.1.1.phase=0:=by
  have key:=zGc (m:=f) (fun x=>vG ⟨x.2.2.2.1,x.2.2.2.2⟩∧∃ j:Nat,x.2.2.1=(j:Int)∧zGD L N O m g j x.2.1.1 x.2.1.2 x.1) (fun x=>9 - x.2.2.1.toNat) (fun t=>∃ y:zA × (zC × zD) × List Int × Int,t= .inr y∧y.2.1.1.phase=0) (fun x hI=>?_) (d,(a,s),0,c.L,c.At) ⟨hc,0,rfl,h⟩
  · obtain ⟨t, h1, y, rfl, h2⟩ := key
    exact ⟨y,h1,h2⟩
  obtain ⟨d,⟨a,s⟩,i,cl,ca⟩:=x
  obtain ⟨hc,j,hj,hI⟩:=hI
  simp only at hc hj hI
  subst hj
  have h8:=zWp hI
  rw [hm]
  simp only
  rw [decide_eq_true (by omega:(j:Int)<9),cond_true]
  obtain ⟨a',s',e1,hI'⟩:∃ a' s',(bif ((j:Int)==(IntKind.wrap .i64 (at_p1.tmod 9))) then (bnd (yO a) fun r6=>bnd (yN a) fun r7=>bnd (xI d 0) fun r8=>aA r8.2.1 (none) (fun q1=>bnd (xS q1 r6 N r8.1) fun r9=>aA r9.2.2.1 (bnd ((bif (r8.2.2 != 0) then (some ()) else (bif (r9.2.2.2 != 0) then (some ()) else (some ())):Option Unit)) fun o6=>some (.inl false)) (fun q2=>bnd ((bif (r8.2.2 != 0) then (some true) else (bif (r9.2.2.2 != 0) then (some true) else (bnd (yN q2) fun r10=>bif (r10 != r7) then (some true) else (bnd (yO q2) fun r11=>bnd (uJ r11 r6) fun r12=>some (!r12)))):Option Bool)) fun o7=>bif o7 then (some (.inl false)) else (some (.inr ((q2,r9.1),r9.2.1)))))) else (some (.inr ((a,s),d))):Option (Bool ⊕ ((zC × zD) × zA)))=some (.inr ((a',s'),d))∧zGD L N O m g j a' s' d:=by
    cases ((j:Int)==(IntKind.wrap .i64 (at_p1.tmod 9))) with
    | false=>exact ⟨a,s,rfl,hI⟩
    | true=>rw [cond_true]; exact zUl hN hI
  rw [e1,bnd_some]
  simp only [zIZ]
  rw [gJ,bnd_some]
  by_cases hp:a'.phase=0
  · rw [hp]
    exact .inr ⟨_,rfl,_,rfl,hp⟩
  · rw [yT (by simpa using hp)]
    obtain ⟨r14,q1,q2,q3,q4⟩:=gK hc (n:=4) (by omega)
    rw [q1,bnd_some]
    obtain ⟨a2,s2,d2,k,w1,w2,w3⟩:=zRq hI' hg hp (decide (r14.2<3))
    rw [w1,bnd_some]
    simp only [bne_self_eq_false,cond_false]
    have hw2:IntKind.wrap .i64 ((j:Int)+1)=((j+1:Nat):Int):=by rw [yQ (by omega) (by omega)]; omega
    rw [hw2]
    exact .inl ⟨_,rfl,⟨q2,j+1,rfl,w2⟩,by simp only [Int.toNat_natCast]; omega⟩
theorem zIY (codes:List Int) (at_p1:Int) (h:okL (inK .u8) codes) (_:inK .u8 at_p1):oB codes at_p1=some true:=by
  unfold oB
  obtain ⟨c,e1,hc⟩:=zPq h (most:=200) (by omega) (by omega)
  obtain ⟨c',L,N,s,bb,e2,hc',hL,h4,hN,hS,hb,hbl⟩:=zSl hc
  rw [zTF,bnd_some,Bool.not_true,cond_false,e1,bnd_some,e2,bnd_some]
  generalize zAS 2 1024=D at*
  by_cases h0:bb.length=0
  · obtain rfl : bb = [] := List.length_eq_zero_iff.1 h0
    simp only [iz_nil]
    rw [zQv (.inl rfl),bnd_some]
    rfl
  have hrl:(iz bb).length=bb.length:=iz_len bb
  simp only
  rw [zTB (.inl rfl) (by omega) (by omega),bnd_some]
  simp only [Bool.not_true,cond_false]
  rw [hrl]
  have hdl:=zCd (a:=ag0 L N) hL.1 rfl hN.ok hb (by omega) hbl s D
  rcases hdl with ⟨e,he,q1,q2⟩ | ⟨q1,q2,q3,q4,q5⟩ | ⟨q1,q2,q3,O,q4,q5,q6⟩
  · rw [q1, bnd_some, bnd_some]
    simp only
    rw [xK (by simpa using he)]
  · rw [q5, bnd_some, bnd_some]
    simp only [bne_self_eq_false,cond_false]
    obtain ⟨y,w1,w2⟩:=zND (L:=L) (N:=N) (O:= []) (m:=0) (g:=0) (by omega) hN.ok at_p1 _ (fun _=>rfl) hc' (.inr ⟨rfl,hL.1,hS,by omega⟩:zGD L N [] 0 0 0 ⟨true,L,N,0,zPh,0, []⟩ s D)
    refine yA w1 ?_
    rw [retOr_inr,gJ,bnd_some,w2]
    rfl
  · have hv := zNE q1
    have hord:=zJb (a:=ag0 L N) hL.1 hv q3 q4
    obtain ⟨w1,w2⟩:=hord.rngJ (ph:=2) (by omega)
    obtain ⟨s',d',p1,p2⟩:=zVA hS (by omega) w1 w2
    rw [q6]
    unfold fN at p1
    rw [p1,bnd_some]
    simp only [if_true,bnd_some,bne_self_eq_false,cond_false]
    have hOl:0<O.length:=List.length_pos_iff.2 q5
    have hO4:O.length≤4:=by
      have:=hord.few
      rw [com_len] at this
      exact Nat.le_trans this h4
    obtain ⟨y,w1,w2⟩:=zND (L:=nT (ag0 L N) (pK bb).1) (N:=N) (O:=O) (m:=bQ (nT (ag0 L N) (pK bb).1) (nT (ag0 L N) (pK bb).1).length) (g:=1) (by omega) hN.ok at_p1 _ (fun _=>rfl) hc' (a:=agC (nT (ag0 L N) (pK bb).1) N O (bQ (nT (ag0 L N) (pK bb).1) (nT (ag0 L N) (pK bb).1).length) 0 2) (s:=s') (d:=d') (.inl ⟨0,2,hord,zWE hL.1 hv,hO4, .inl ⟨rfl,hOl,rfl⟩,rfl,p2⟩)
    refine yA w1 ?_
    rw [retOr_inr,gJ,bnd_some,w2]
    rfl
end Go.Proofs.YtplchdlgdjcojaaGreatDoor
end
