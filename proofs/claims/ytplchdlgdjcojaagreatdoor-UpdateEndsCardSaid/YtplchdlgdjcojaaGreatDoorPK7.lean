/-
  Texts of this seat, put together: rules, walks, plain laws.
  Conditions: none.
-/
import Derived.Test.YtplchdlgdjcojaaGreatDoorPK6
section
namespace Go.Proofs.YtplchdlgdjcojaaGreatDoor
open Go
set_option linter.unusedVariables false
set_option linter.unusedSimpArgs false
def zDz (d:zB) (x:zH):zB:=⟨d.Name,lW d.Slots (1 - d.Running) ⟨x,mZ x⟩,d.Active,d.Running,d.Trial⟩
theorem zHe (a:qO yE) (k:Int) (y z:yE):lW (lW a k y) k z=lW a k z:=by
  unfold lW
  split <;> rfl
theorem zJt {x:zH} {n:ByteArray} (h:wJ x=true) (hn:x.Name=n):oO ⟨x,mZ x⟩ n=true:=by
  unfold oO zCJ
  simp [h,hn]
theorem zDJ {x:zH} (h:wJ x=true):small x:=by
  have:=(rU h).2.2.2
  unfold small; omega
theorem zOU {d:zB} (h:Rdy d) {x:zH} (hx:wJ x=true) (hn:x.Name=d.Name):Two (zDz d x):=by
  have hi:=zJg (n:=d.Name) ⟨h.vd,rfl,h.sm⟩ h.run h.tr (y:=⟨x,mZ x⟩) (zDJ hx)
  refine ⟨⟨hi.vd,hi.sm,h.run,h.tr⟩,?_⟩
  show oO (tW (lW d.Slots (1 - d.Running) ⟨x,mZ x⟩) (1 - d.Active)) d.Name=true
  rw [h.run,zGa]
  exact zJt hx hn
theorem zRg {a:zC} {k:Nat} {d:zB} (hd:a.devices[k]? =some d) (h:Rdy d) {x:zH} (hx:wJ x=true) (hn:x.Name=d.Name):
    uY a (k:Int) x=some (⟨a.store,a.devices.set k (zDz d x),a.needs,a.phase,a.load,a.before,a.order⟩,0):=by
  have hk:=(List.getElem?_eq_some_iff.1 hd).1
  have hi0:Inv d d.Name:=⟨h.vd,rfl,h.sm⟩
  have hxs:=zDJ hx
  have e1:zIV d=(⟨d.Name,lW d.Slots (1 - d.Running) lJ,d.Active,d.Running,d.Trial⟩,0):=by
    unfold zIV
    rw [zNQ h.vd h.run h.tr]
    rfl
  have hi1:Inv ⟨d.Name,lW d.Slots (1 - d.Running) lJ,d.Active,d.Running,d.Trial⟩ d.Name:=zJg hi0 h.run h.tr zFF
  have e2:zJe ⟨d.Name,lW d.Slots (1 - d.Running) lJ,d.Active,d.Running,d.Trial⟩ x (x.Data.length:Int)=(⟨d.Name,lW d.Slots (1 - d.Running) ⟨x,0⟩,d.Active,d.Running,d.Trial⟩,0):=by
    unfold zJe
    rw [zNQ hi1.vd h.run h.tr]
    have hok:bA ⟨d.Name,lW d.Slots (1 - d.Running) lJ,d.Active,d.Running,d.Trial⟩ x (x.Data.length:Int)=true:=by
      unfold bA
      simp [hx,hn]
    rw [hok]
    simp only [bne_self_eq_false,cond_false,cond_true,zHe,Int.toNat_natCast,List.take_length]
  have hi2:Inv ⟨d.Name,lW d.Slots (1 - d.Running) ⟨x,0⟩,d.Active,d.Running,d.Trial⟩ d.Name:=zJg hi0 h.run h.tr (y:=⟨x,0⟩) hxs
  have e3:zEh ⟨d.Name,lW d.Slots (1 - d.Running) ⟨x,0⟩,d.Active,d.Running,d.Trial⟩ (mZ x)=(zDz d x,0):=by
    unfold zEh
    rw [zNQ hi2.vd h.run h.tr]
    simp only [bne_self_eq_false,cond_false,zGa,zHe]
    rw [zJt hx hn,cond_true]
    rfl
  unfold uY
  rw [elt_nat,hd,bnd_some,zNa h.sm,bnd_some,e1]
  simp only [bne_self_eq_false,cond_false,bnd_some]
  rw [oL hk,bnd_some,zMc hi1.sm hxs,bnd_some,e2]
  simp only [bne_self_eq_false,cond_false]
  rw [zBC,bnd_some,zJF hi2.sm,bnd_some,e3]
  simp only [bne_self_eq_false,cond_false]
  rw [elt_nat,List.getElem?_set_self hk,bnd_some,oL (by simpa using hk),bnd_some,List.set_set]
def zBe (l:List zH) (n:ByteArray):Option zH:=l.find? fun x=>decide (x.Name=n)
theorem zOe (l:List zH) (n:ByteArray) (v:zJ):vOf l n v=match zBe l n with | some x=>x.Version | none=>v:=rfl
theorem zFD {l:List zH} (hd:pM (l.map (·.Name))) {n:ByteArray} {x:zH} (h:zBe l n=some x):∃ k,∃ hk:k<l.length,l[k]=x∧x.Name=n∧zEC l n=(k:Int):=by
  unfold zBe at h
  have hn:x.Name=n:=by simpa using List.find?_some h
  obtain ⟨k,hk,he⟩:=List.mem_iff_getElem.1 (List.mem_of_find?_eq_some h)
  refine ⟨k,hk,he,hn,?_⟩
  unfold zEC
  rw [zKg (i:=k) (v:=(k:Int)) hk (by rw [List.getElem?_eq_getElem hk,he,Option.map_some,hn,if_pos rfl]) (fun j hj=>?_)]
  rw [List.getElem?_eq_getElem (by omega),Option.map_some,if_neg]
  intro hh
  injection hh with hh
  have:=fT hd (i:=j) (j:=k) (by rw [List.length_map]; omega) (by rw [List.length_map]; omega) (by rw [List.getElem_map,List.getElem_map,hh,he,hn])
  omega
theorem zRV {l:List zH} {n:ByteArray} (h:zBe l n=none):zEC l n= -1:=by
  unfold zEC
  rw [zNg fun j hj=>?_]
  rw [List.getElem?_eq_getElem hj,Option.map_some,if_neg]
  intro hh
  injection hh with hh
  have:=List.find?_eq_none.1 h _ (List.getElem_mem hj)
  simp [hh] at this
def zOG (l:List zH) (d:zB):zB:=match zBe l d.Name with | some x=>zDz d x | none=>d
def wrL (L:List zB) (l:List zH) (S:List Nat) (j:Nat):List zB:=L.mapIdx fun i d=>if i∈S.take j then zOG l d else d
@[simp] theorem wrL_len (L:List zB) (l:List zH) (S:List Nat) (j:Nat):(wrL L l S j).length=L.length:=by simp [wrL]
theorem zCo (L:List zB) (l:List zH) (S:List Nat) (j i:Nat):(wrL L l S j)[i]? =L[i]?.map fun d=>if i∈S.take j then zOG l d else d:=by simp [wrL,List.getElem?_mapIdx]
theorem zQy (L:List zB) (l:List zH) (S:List Nat):wrL L l S 0=L:=by
  apply List.ext_getElem?
  intro i
  rw [zCo]
  simp
theorem zPV {L:List zB} {l:List zH} {S:List Nat} (h:S.Nodup) {c:Nat} (hc:c<S.length) {d:zB} (hd:L[S[c]]? =some d):(wrL L l S c).set S[c] (zOG l d)=wrL L l S (c+1):=by
  apply List.ext_getElem?
  intro i
  rw [List.getElem?_set,zCo,zCo,wrL_len]
  have hlt:S[c]<L.length:=(List.getElem?_eq_some_iff.1 hd).1
  have ht:S.take (c+1)=S.take c++ [S[c]]:=xE hc
  by_cases hi:S[c]=i
  · subst hi
    rw [if_pos rfl,if_pos hlt,hd,Option.map_some,if_pos ((vH h hc _).2 (by omega))]
  · rw [if_neg hi]
    have:(i∈S.take (c+1))↔i∈S.take c:=by
      rw [ht,List.mem_append,List.mem_singleton]
      constructor
      · rintro (h | h)
        · exact h
        · exact absurd h.symm hi
      · exact .inl
    simp only [this]
def fU (a:zC) (L:List zB):zC:=⟨a.store,L,a.needs,a.phase,a.load,a.before,a.order⟩
theorem zOH {a:zC} {B:zW} (hB:B.Images.length≤8) (hd:pM (B.Images.map (·.Name))) (hr:∀ x∈B.Images,wJ x=true) {S:List Nat} (hS:S.Nodup) (hl:S.length≤1000)
    (hk:∀ k∈S,∃ d x,a.devices[k]? =some d∧Rdy d∧zBe B.Images d.Name=some x) (bad:zC→Int→(zC × zD × zA × Int))
    (m:zC × Int→Option (sQ (zC × Int) ((zC × zD × zA × Int) ⊕ zC)))
    (hm:∀ s1,m s1=bif decide (s1.2<((iz S).length:Int)) then (bnd (elt (iz S) s1.2) fun x1=>bnd (elt s1.1.devices x1) fun x2=>bnd (tV B x2.Name) fun r7=>bnd (elt B.Images r7) fun x3=>bnd (uY s1.1 x1 x3) fun r8=>bif (r8.2 != 0) then (some (.done (.inl (bad r8.1 r8.2)))) else (some (.next (r8.1,IntKind.wrap .i64 (s1.2+1))))) else (some (.done (.inr s1.1)))):
    yD m (a,0)=some (.inr (fU a (wrL a.devices B.Images S S.length))):=by
  have h0:a=fU a (wrL a.devices B.Images S 0):=by rw [zQy]; rfl
  have:=qD (m:=m) (t:=.inr (fU a (wrL a.devices B.Images S S.length))) (fun i=>(fU a (wrL a.devices B.Images S i),(i:Int))) S.length (fun i hi=>?_) ?_
  · rw [←h0] at this; exact this
  · rw [hm]
    simp only
    obtain ⟨d,x,h1,h2,h3⟩:=hk _ (List.getElem_mem hi)
    obtain ⟨k,hkl,h4,h5,h6⟩:=zFD hd h3
    have hdev:(fU a (wrL a.devices B.Images S i)).devices[S[i]]? =some d:=by
      show (wrL a.devices B.Images S i)[S[i]]? =_
      rw [zCo,h1,Option.map_some,if_neg (fun hh=>absurd ((vH hS hi i).1 hh) (by omega))]
    rw [iz_len,decide_eq_true (by omega:(i:Int)<(S.length:Int)),cond_true,cP hi,bnd_some,elt_nat,hdev,bnd_some,zAs B d.Name (by omega),bnd_some,h6,yS hkl,bnd_some,h4,zRg hdev h2 (hr x (by rw [←h4]; exact List.getElem_mem hkl)) h5,bnd_some,zR hi (by omega)]
    have hset:(wrL a.devices B.Images S i).set S[i] (zDz d x)=wrL a.devices B.Images S (i+1):=by
      rw [←zPV hS hi h1]
      unfold zOG
      rw [h3]
    show some (sQ.next (fU a ((wrL a.devices B.Images S i).set S[i] (zDz d x)),((i+1:Nat):Int)))=_
    rw [hset]
  · rw [hm]
    simp only
    rw [iz_len,decide_eq_false (by omega:¬ (S.length:Int)<(S.length:Int)),cond_false]
def bV (L:List zB) (n:Nat):Nat:=zBR n fun i=>match L[i]? with | some d=>d.Active==1 | none=>false
theorem zTK {L:List zB} (h8:L.length≤8) (hb:∀ d∈L,bit d.Active) (m:Int × Int→Option (sQ (Int × Int) Int))
    (hm:∀ s2,m s2=bif decide (s2.1<(L.length:Int)) then (bnd (elt L s2.1) fun x4=>bnd (zBS .u8 (IntKind.wrap .u8 x4.Active) s2.1) fun q1=>some (.next (IntKind.wrap .i64 (s2.1+1),iOr .u8 s2.2 q1))) else (some (.done s2.2))):
    yD m (0,0)=some ((bV L L.length:Nat):Int):=by
  refine qD (m:=m) (fun i=>((i:Int),((bV L i:Nat):Int))) L.length (fun i hi=>?_) ?_
  · rw [hm]
    simp only
    rw [decide_eq_true (by omega:(i:Int)<(L.length:Int)),cond_true,yS hi,bnd_some]
    have hp:2 ^ i≤128:=by
      have:2 ^ i≤2 ^ 7:=Nat.pow_le_pow_right (by omega) (by omega)
      omega
    have hma:bV L i<256:=zAv (by omega)
    have hsucc:bV L (i+1)=if L[i].Active=1 then bV L i|||2 ^ i else bV L i:=by
      unfold bV
      rw [zAn,List.getElem?_eq_getElem hi]
      simp
    rcases hb _ (List.getElem_mem hi) with h0 | h0
    · rw [h0, show IntKind.wrap .u8 0 = ((0 : Nat) : Int) from by decide, zNT (by omega) (by omega), bnd_some, Nat.zero_mul, zDt hma (by decide), zR hi (by omega), hsucc, h0]
      simp
    · rw [h0, show IntKind.wrap .u8 1 = ((1 : Nat) : Int) from by decide, zNT (by omega) (by omega), bnd_some, Nat.one_mul, zDt hma (by omega), zR hi (by omega), hsucc, h0]
      simp
  · rw [hm]
    simp only
    rw [decide_eq_false (by omega:¬ (L.length:Int)<(L.length:Int)),cond_false]
theorem zGu {F:Nat} {G:Nat→Bool}:∀ {l:List Nat} {S:Nat},dZ F G S l→l.Nodup∧∀ i∈l,S.testBit i=false
  | [],_,_=>⟨List.nodup_nil,fun i hi=>by cases hi⟩
  | j::l,S,h=>by
    obtain ⟨h1,h2⟩:=h
    obtain ⟨p1,p2,p3⟩:=kQ h1
    obtain ⟨q1,q2⟩:=zGu h2
    refine ⟨List.nodup_cons.2 ⟨fun hj=>?_,q1⟩,fun i hi=>?_⟩
    · have := q2 j hj
      rw [zJo] at this
      simp at this
    · rcases List.mem_cons.1 hi with rfl | hi
      · exact p2
      · have := q2 i hi
        rw [zJo] at this
        exact (Bool.or_eq_false_iff.1 this).1
end Go.Proofs.YtplchdlgdjcojaaGreatDoor
end
section
namespace Go.Proofs.YtplchdlgdjcojaaGreatDoor
open Go
set_option linter.unusedVariables false
set_option linter.unusedSimpArgs false
theorem zKl {b:zW} (h:wO b=0) {i:Nat} (hi:i+1<b.Images.length):Op.bytesLess b.Images[i].Name.toList b.Images[i+1].Name.toList=true:=by
  have h0:=jZ h
  unfold wO at h
  split at h
  · cases h
  · split at h
    · rename_i e he
      exfalso
      obtain ⟨i,_,hi⟩:=List.exists_of_findSome?_eq_some he
      unfold lK at hi
      subst h
      split at hi
      · cases hi
      · split at hi
        · cases hi
        · split at hi
          · cases hi
          · cases hi
    · rename_i he
      have:=List.findSome?_eq_none_iff.1 he (i+1) (List.mem_range.2 hi)
      unfold lK at this
      rw [List.getElem?_eq_getElem hi] at this
      simp only [Nat.add_sub_cancel] at this
      rw [List.getElem?_eq_getElem (by omega)] at this
      rw [if_neg (by rw [h0.2.2.1 _ (List.getElem_mem hi)]; simp)] at this
      simp only [Option.map_some,Option.getD_some] at this
      cases hb:Op.bytesLess b.Images[i].Name.toList b.Images[i+1].Name.toList
      · simp [hb] at this
      · rfl
theorem nY {b:zW} (h:wO b=0):pM (b.Images.map (·.Name)):=by
  have hlt:∀ (j:Nat) (hj:j<b.Images.length) (i:Nat) (hi:i<j),Op.bytesLess (b.Images[i]'(Nat.lt_trans hi hj)).Name.toList b.Images[j].Name.toList=true:=by
    intro j
    induction j with
    | zero=>intro _ i hi; omega
    | succ j ih=>
      intro hj i hi
      by_cases he:i=j
      · subst he; exact zKl h hj
      · exact zDa _ _ _ (ih (by omega) i (by omega)) (zKl h hj)
  refine List.pairwise_iff_getElem.2 fun i j hi hj hij he=>?_
  rw [List.getElem_map,List.getElem_map] at he
  have:=hlt j (by simpa using hj) i hij
  rw [he,cR] at this
  cases this
theorem zII {b:List Nat} (h:(rY b).2=0):wO (rY b).1=0:=by
  unfold rY at h ⊢
  split
  · rename_i h1; rw [if_pos h1] at h; cases h
  · rename_i h1
    rw [if_neg h1] at h
    split
    · rename_i h2; rw [if_pos h2] at h; cases h
    · rename_i h2
      rw [if_neg h2] at h
      split
      · rename_i h3; rw [if_pos h3] at h; cases h
      · rename_i h3
        rw [if_neg h3] at h
        generalize b.take (b.length - 4)=q at*
        unfold zJH at h ⊢
        split
        · rename_i h4; rw [if_pos h4] at h; cases h
        · rename_i h4
          rw [if_neg h4] at h
          cases hp:zDu q with
          | none=>rw [hp] at h; cases h
          | some x=>
            rw [hp] at h
            obtain ⟨imgs,needs,rest⟩:=x
            simp only at h ⊢
            split
            · rename_i h5; rw [if_pos h5] at h; cases h
            · rename_i h5
              rw [if_neg h5] at h
              split
              · rename_i h6; rw [if_pos h6] at h; cases h
              · rename_i h6
                rw [if_neg h6] at h
                split
                · rename_i h7; rw [if_pos h7] at h; exact absurd h h7
                · rename_i h7; exact Classical.byContradiction fun hh=>h7 hh
theorem zLD (L:List zB):(wC L).map (·.Name)=L.map (·.Name):=by simp [wC,List.map_map,Function.comp_def]
theorem zSp {L:List zB} {l:List zH} {N:List zX} {i:Nat} (h:gN ⟨wC L,tB (wC L) l,N⟩ i=true):∃ d x,L[i]? =some d∧zBe l d.Name=some x:=by
  unfold gN at h
  simp only at h
  by_cases hi:i<L.length
  · have h1 : (wC L)[i]? = some ⟨L[i].Name, fC L[i]⟩ := by rw [wC, List.getElem?_map, List.getElem?_eq_getElem hi]; rfl
    have h2:(tB (wC L) l)[i]? =some ⟨L[i].Name,vOf l L[i].Name (fC L[i])⟩:=by rw [tB,List.getElem?_map,h1]; rfl
    rw [h1,h2] at h
    simp only [zOe] at h
    cases hx:zBe l L[i].Name with
    | none=>rw [hx] at h; simp at h
    | some x=>exact ⟨L[i],x,List.getElem?_eq_getElem hi,hx⟩
  · rw [List.getElem?_eq_none (by simp [wC]; omega)] at h
    cases h
def sL (a:zC) (B:zW):xB:=⟨wC a.devices,tB (wC a.devices) B.Images,a.needs⟩
theorem zKY {now:List zM} {N:List zX} {B:zW} (h:(lQ now N B).2=0):lQ now N B=(⟨now,tB now B.Images,N⟩,0):=by
  unfold lQ at h ⊢
  split
  · rename_i h1
    rw [if_pos h1] at h
    split
    · rfl
    · rename_i h2; rw [if_neg h2] at h; cases h
  · rename_i h1; rw [if_neg h1] at h; cases h
theorem zPn (now:List zM) (N:List zX) (B:zW):(lQ now N B).2=0∨(lQ now N B).2=8∨(lQ now N B).2=42:=by
  unfold lQ
  split
  · split
    · exact .inl rfl
    · exact .inr (.inr rfl)
  · exact .inr (.inl rfl)
def oJ (a:zC) (B:zW):List zB:=wrL a.devices B.Images (xU (wC a.devices).length (yQ (sL a B))) (xU (wC a.devices).length (yQ (sL a B))).length
theorem zKe (n F:Nat):(xU n F).Nodup:=List.Pairwise.filter _ List.nodup_range
theorem zHh {n F k:Nat}:k∈xU n F↔k<n∧F.testBit k=true:=by
  unfold xU
  rw [List.mem_filter,List.mem_range]
theorem zEm (a:zC) (B:zW) (i:Nat):(oJ a B)[i]? =a.devices[i]?.map fun d=>if (yQ (sL a B)).testBit i=true then zOG B.Images d else d:=by
  unfold oJ
  rw [zCo,List.take_length]
  cases h:a.devices[i]? with
  | none=>rfl
  | some d=>
    have hi:=(List.getElem?_eq_some_iff.1 h).1
    have:(i∈xU (wC a.devices).length (yQ (sL a B)))↔(yQ (sL a B)).testBit i=true:=by
      rw [zHh]
      simp [wC,hi]
    simp only [Option.map_some,this]
@[simp] theorem com_len (a:zC) (B:zW):(oJ a B).length=a.devices.length:=by simp [oJ]
theorem zEo {a:zC} (hd:DL a.devices) {B:zW} (hv:wO B=0) {i:Nat} (hi:(yQ (sL a B)).testBit i=true):∃ d x,a.devices[i]? =some d∧zBe B.Images d.Name=some x∧x∈B.Images∧x.Name=d.Name∧(oJ a B)[i]? =some (zDz d x)∧Two (zDz d x):=by
  rw [zEQ] at hi
  obtain ⟨h1,h2⟩:=Bool.and_eq_true_iff.1 hi
  obtain ⟨d,x,h3,h4⟩:=zSp h2
  obtain ⟨k,hk,h5,h6,_⟩:=zFD (nY hv) h4
  have hx:x∈B.Images:=by rw [←h5]; exact List.getElem_mem hk
  refine ⟨d,x,h3,h4,hx,h6,?_,zOU (hd.rdy _ (List.mem_of_getElem? h3)) ((jZ hv).2.2.1 x hx) h6⟩
  rw [zEm,h3,Option.map_some,zEQ,hi,if_pos rfl]
  unfold zOG
  rw [h4]
theorem zIz {a:zC} (hd:DL a.devices) {B:zW} (hv:wO B=0):∀ d∈oJ a B,Rdy d:=by
  intro d hm
  obtain ⟨i,hi,he⟩:=List.mem_iff_getElem.1 hm
  have h1:(oJ a B)[i]? =some d:=by rw [List.getElem?_eq_getElem hi,he]
  by_cases hb:(yQ (sL a B)).testBit i=true
  · obtain ⟨_, _, _, _, _, _, h2, h3⟩ := zEo hd hv hb
    rw [h1] at h2
    injection h2 with h2
    rw [h2]
    exact h3.1
  · rw [zEm] at h1
    obtain ⟨d0,h4,h5⟩:=Option.map_eq_some_iff.1 h1
    rw [if_neg hb] at h5
    rw [←h5]
    exact hd.rdy _ (List.mem_of_getElem? h4)
theorem zIw {a:zC} (hd:DL a.devices) {B:zW} (hv:wO B=0) (hp:sH (sL a B)=0) {O:List Nat} (hO:gU (sL a B)=some O):kF (oJ a B) O (bV (oJ a B) (oJ a B).length):=by
  have hpath:=zBc hO
  have h8:=hd.le
  refine ⟨(zGu hpath).1,by rw [com_len]; exact h8,fun i hi=>?_,fun i d h=>?_,zAv (by rw [com_len]; exact h8),zIz hd hv,zMv hp hpath⟩
  · obtain ⟨d, x, _, _, _, _, h1, h2⟩ := zEo hd hv (zCX hpath i hi)
    exact ⟨_,h1,h2⟩
  · have hi := (List.getElem?_eq_some_iff.1 h).1
    have hbit:=(zIz hd hv d (List.mem_of_getElem? h)).vd.ba
    unfold bV
    rw [zLA,h,decide_eq_true hi,Bool.true_and]
    rcases hbit with h0 | h0 <;> simp [h0]
theorem zCg {a:zC} (hd:DL a.devices) (hst:a.store=true) (hN:pW a.needs=true) {bb:List Nat} (hb:xT bb) (h1:1≤bb.length) (h2:bb.length≤8192) (s:zD) (d:zA):
    (∃ e,e≠0∧xX (dlA a (iz bb) (wK bb.length)) s d=some (dlA a (iz bb) (wK bb.length),s,d,e)∧
      ((rY bb).2=e∨(rY bb).2=0∧((lQ (wC a.devices) a.needs (rY bb).1).2=e∧(e=8∨e=42)∨(lQ (wC a.devices) a.needs (rY bb).1).2=0∧uQ (sL a (rY bb).1)=some ([],e))))∨
    ((rY bb).2=0∧(lQ (wC a.devices) a.needs (rY bb).1).2=0∧sH (sL a (rY bb).1)=0∧gU (sL a (rY bb).1)=some []∧
      xX (dlA a (iz bb) (wK bb.length)) s d=some (⟨a.store,a.devices,a.needs,0,zPf,a.before,a.order⟩,s,d,0))∨
    ((rY bb).2=0∧(lQ (wC a.devices) a.needs (rY bb).1).2=0∧sH (sL a (rY bb).1)=0∧∃ O,gU (sL a (rY bb).1)=some O∧O≠ []∧
      xX (dlA a (iz bb) (wK bb.length)) s d=bnd (zT s [⟨32,2::(bV (oJ a (rY bb).1) (oJ a (rY bb).1).length:Int)::iz O,false⟩] d) fun r=>
        if r.2.2=0 then some (agC (oJ a (rY bb).1) a.needs O (bV (oJ a (rY bb).1) (oJ a (rY bb).1).length) 0 2,r.1,r.2.1,0)
        else some (⟨true,oJ a (rY bb).1,a.needs,1,dl (iz bb) (wK bb.length),(bV (oJ a (rY bb).1) (oJ a (rY bb).1).length:Int),iz O⟩,r.1,r.2.1,r.2.2)):=by
  have hbl:(iz bb).length=bb.length:=iz_len bb
  have hlc:wN (dl (iz bb) (wK bb.length))=some true:=by
    rw [←hbl,zHD (by omega) (by omega) (Nat.le_refl _),decide_eq_true rfl]
  have hby:sE (dl (iz bb) (wK bb.length))=some (iz bb,0):=by
    have:=zVP (b:=iz bb) (by omega) (by omega)
    rw [hbl] at this
    exact this
  have hd8:=hd.le
  have hNl:a.needs.length≤16:=of_decide_eq_true (Bool.and_eq_true_iff.1 hN).1
  have pre:∀ (X:Option (zC × zD × zA × Int)),True:=fun _=>trivial
  unfold xX
  have hc1:(bnd ((bif ((dlA a (iz bb) (wK bb.length)).phase != 1) then (some true) else (bnd (wN (dlA a (iz bb) (wK bb.length)).load) fun r1=>some (!r1)):Option Bool)) fun o1=>some o1)=some false:=by
    show (bnd (bnd (wN (dl (iz bb) (wK bb.length))) fun r1=>some (!r1)) fun o1=>some o1)=_
    rw [hlc]
    rfl
  rw [zSP] at hc1
  rw [hc1,bnd_some,cond_false]
  show (∃ e,e≠0∧(bnd (sE (dl (iz bb) (wK bb.length))) _)=_∧_)∨_
  rw [show (dlA a (iz bb) (wK bb.length)).load=dl (iz bb) (wK bb.length) from rfl,hby]
  simp only [bnd_some,bne_self_eq_false,cond_false]
  rw [zDO hb (by omega)]
  simp only [bnd_some]
  by_cases he:(rY bb).2=0
  case neg=>
    refine .inl ⟨(rY bb).2,he,?_, .inl rfl⟩
    rw [xF (by simpa using he)]
  have hv:=zII he
  rw [yR (by simpa using he)]
  generalize hB:(rY bb).1=B at*
  obtain ⟨v1,v2,v3,v4,v5⟩:=jZ hv
  have hpl:tR (dlA a (iz bb) (wK bb.length)) B=some (lQ (wC a.devices) a.needs B):=zTX (a:=dlA a (iz bb) (wK bb.length)) hd8 (by show pM ((wC a.devices).map (·.Name)); rw [zLD]; exact zGr hd.names) hNl v2 v4 (nY hv)
  rw [hpl,bnd_some]
  by_cases hp:(lQ (wC a.devices) a.needs B).2=0
  case neg=>
    refine .inl ⟨(lQ (wC a.devices) a.needs B).2,hp,?_, .inr ⟨he, .inl ⟨rfl,?_⟩⟩⟩
    · rw [xF (by simpa using hp)]
    · rcases zPn (wC a.devices) a.needs B with h | h | h
      · exact absurd h hp
      · exact .inl h
      · exact .inr h
  rw [yR (by simpa using hp),zKY hp]
  show (∃ e,e≠0∧(bnd (uQ (sL a B)) _)=_∧_)∨_
  rw [show (⟨wC a.devices,tB (wC a.devices) B.Images,a.needs⟩:xB)=sL a B from rfl]
  rw [zLa]
  by_cases hvn:sH (sL a B)=0
  case neg=>
    rw [if_neg hvn]
    have hne:((sH (sL a B):Nat):Int)≠0:=by omega
    refine .inl ⟨(sH (sL a B):Int),hne,?_, .inr ⟨he, .inr ⟨rfl,rfl⟩⟩⟩
    rw [bnd_some,xF (by simpa using hne)]
  rw [if_pos hvn]
  cases hO:gU (sL a B) with
  | none=>
    refine .inl ⟨41,by decide,?_, .inr ⟨he, .inr ⟨rfl,rfl⟩⟩⟩
    rw [bnd_some]
    rfl
  | some O=>
    simp only [bnd_some,bne_self_eq_false,cond_false]
    by_cases hO0:O= []
    · subst hO0
      refine .inr (.inl ⟨he,trivial,hvn,rfl,?_⟩)
      rfl
    refine .inr (.inr ⟨he,trivial,hvn,O,rfl,hO0,?_⟩)
    have hOl:0<O.length:=List.length_pos_iff.2 hO0
    rw [yR (by simp; omega),zRq,if_pos hvn,bnd_some]
    have hord:=zIw hd hv hvn hO
    have hpn:(sL a B).Now.length=(wC a.devices).length:=rfl
    have hsl:(xU (wC a.devices).length (yQ (sL a B))).length≤8:=Nat.le_trans (List.length_filter_le _ _) (by simp [wC]; exact hd8)
    rw [hpn]
    refine yA (zOH (a:=dlA a (iz bb) (wK bb.length)) (B:=B) v2 (nY hv) v3 (zKe _ _) (by omega) (fun k hk=>?_) (fun a' e=>(a',s,d,e)) _ (fun _=>rfl)) ?_
    · obtain ⟨dd, x, q1, q2, _⟩ := zEo hd hv (zHh.1 hk).2
      exact ⟨dd,x,q1,hd.rdy _ (List.mem_of_getElem? q1),q2⟩
    rw [retOr_inr]
    have hcl:fU (dlA a (iz bb) (wK bb.length)) (wrL (dlA a (iz bb) (wK bb.length)).devices B.Images (xU (wC a.devices).length (yQ (sL a B))) (xU (wC a.devices).length (yQ (sL a B))).length)=fU (dlA a (iz bb) (wK bb.length)) (oJ a B):=rfl
    rw [hcl]
    refine yA (zTK (L:=oJ a B) (by rw [com_len]; exact hd8) (fun dd hdd=>(zIz hd hv dd hdd).vd.ba) _ (fun _=>rfl)) ?_
    rw [show (2:Int)=((2:Nat):Int) from rfl,zGs (O:=O) rfl hord.len (fun i hi=>by have:=hord.lt hi; rw [com_len] at this; omega) (by decide),bnd_some]
    show bnd (fK a.store) _=_
    rw [hst,show fK true=some true from rfl,bnd_some,zPX]
    show bnd (zT s [⟨32,2::(bV (oJ a B) (oJ a B).length:Int)::iz O,false⟩] d) _=_
    cases zT s [⟨32,2::(bV (oJ a B) (oJ a B).length:Int)::iz O,false⟩] d with
    | none=>rfl
    | some r=>
      simp only [bnd_some]
      by_cases h1:r.2.2=0
      · rw [if_pos h1, yR (by simpa using h1)]
        unfold agC
        rw [zKs,←hst]
        rfl
      · rw [if_neg h1, xF (by simpa using h1), ← hst]
        rfl
end Go.Proofs.YtplchdlgdjcojaaGreatDoor
end
section
namespace Go.Proofs.YtplchdlgdjcojaaGreatDoor
open Go
set_option linter.unusedVariables false
set_option linter.unusedSimpArgs false
def jK:Option (List Int)→List zE
  | none=> []
  | some x=> [⟨32,x,false⟩]
structure StU (d:zA) (s:zD) (v:Option (List Int)) (g:Nat):Prop where
  sto:Sto d s 0
  left:d.left=0
  K:(openF d 0).K=jK v
  gen:(openF d 0).gen≤g
theorem zSj (v:Option (List Int)) (x:List Int):vE (jK v) [⟨32,x,false⟩]=jK (some x):=by
  cases v <;> rfl
theorem zQP (v:Option (List Int)):vE (jK v) [⟨32, [],true⟩]=jK none:=by
  cases v <;> rfl
theorem zVL {d:zA} {s:zD} {v:Option (List Int)} {g:Nat} (h:StU d s v g) (hg:g<2147483648) {x:List Int} (hx:rng x) (h28:x.length≤28):∃ s' d',zT s [⟨32,x,false⟩] d=some (s',d',0)∧StU d' s' (some x) (g+1):=by
  have hp:okP [⟨32,x,false⟩]:=⟨fun z hz=>by
    rw [List.mem_singleton] at hz
    subst hz
    exact ⟨⟨(by decide:(0:Int)≤32),(by decide:(32:Int)≤255)⟩,hx,h28,fun h=>by cases h⟩,List.pairwise_singleton _ _⟩
  have hk:vE (openF d 0).K [⟨32,x,false⟩]=jK (some x):=by rw [h.K,zSj]
  have hg':=h.gen
  obtain ⟨r,h1,h2,h3,h4,h5,_,h6⟩:=h.sto.sure h.left hp (by simp) (by rw [hk]; simp [jK]) (by omega) (fun _=>by rw [hk]; exact Nat.le_refl 1)
  rw [hk] at h4
  obtain ⟨s',d',e⟩:=r
  simp only at h2
  subst h2
  exact ⟨s',d',h1,h3,h6,h4,by simp only at h5; omega⟩
theorem zXt {d:zA} {s:zD} {v:Option (List Int)} {g:Nat} (h:StU d s v g) (hg:g<2147483648):∃ s' d',zT s [⟨32, [],true⟩] d=some (s',d',0)∧StU d' s' none (g+1):=by
  have hp:okP [⟨32, [],true⟩]:=⟨fun z hz=>by
    rw [List.mem_singleton] at hz
    subst hz
    exact ⟨⟨(by decide:(0:Int)≤32),(by decide:(32:Int)≤255)⟩,(fun x (hx:x∈ [])=>(List.not_mem_nil hx).elim),Nat.zero_le _,fun _=>rfl⟩,List.pairwise_singleton _ _⟩
  have hk:vE (openF d 0).K [⟨32, [],true⟩]=jK none:=by rw [h.K,zQP]
  have hg':=h.gen
  obtain ⟨r,h1,h2,h3,h4,h5,_,h6⟩:=h.sto.sure h.left hp (by simp) (by rw [hk]; simp [jK]) (by omega) (fun _=>by rw [hk]; decide)
  rw [hk] at h4
  obtain ⟨s',d',e⟩:=r
  simp only at h2
  subst h2
  exact ⟨s',d',h1,h3,h6,h4,by simp only at h5; omega⟩
theorem zNm:mQ 2 1024=some (some (zDw 2 1024),0)∧∃ s,wQ (zDw 2 1024) 0=some (zDw 2 1024,some s,0)∧StU (zDw 2 1024) s none 0:=by
  have hok:=zUa (n:=2) (m:=1024) (by omega) (by omega)
  obtain ⟨s,o1,o2⟩:=zRB (f:=0) hok rfl (by show (1024:Int)≤1024; omega) (by show 0+1<(List.replicate 2 (0:Int)).length; simp)
  have h0:(openF (zDw 2 1024) 0).K= []:=by rw [zHR (by omega) (by omega)]; rfl
  have g0:(openF (zDw 2 1024) 0).gen=0:=by rw [zHR (by omega) (by omega)]; rfl
  exact ⟨zVX (n:=2) (m:=1024) (by omega) (by omega),s,o1,o2,rfl,h0,by omega⟩
theorem zPK {m:Nat} (hm:m<256) {O:List Nat} (hO:∀ i∈O,i<8) {ph:Int} (hp:0≤ph∧ph≤255):rng (ph::(m:Int)::iz O):=by
  intro x hx
  rcases List.mem_cons.1 hx with h | h
  · subst h; exact hp
  rcases List.mem_cons.1 h with h | h
  · subst h; omega
  · obtain ⟨i, hi, rfl⟩ := List.mem_map.1 h
    have:=hO i hi
    show 0≤(i:Int)∧(i:Int)≤255
    omega
theorem zIk {L:List zB} {N:List zX} {O:List Nat} {m c:Nat} {ph:Int} {s:zD} {d:zA} {v:Option (List Int)} {g:Nat} (h:StU d s v g) (hg:g<2147483648):
    ∃ s' d',zEe L N O m c ph s d=some (agE L N O m c,s',d',0)∧StU d' s' none (g+1):=by
  obtain ⟨s',d',h1,h2⟩:=zXt h hg
  refine ⟨s',d',?_,h2⟩
  unfold zEe
  rw [h1,bnd_some]
  rfl
def zFq (ph:Int) (m:Nat) (O:List Nat):List Int:=ph::(m:Int)::iz O
theorem kF.rngJ {L:List zB} {O:List Nat} {m:Nat} (h:kF L O m) {ph:Int} (hp:0≤ph∧ph≤255):rng (zFq ph m O)∧(zFq ph m O).length≤28:=⟨zPK h.small (fun i hi=>by have:=h.lt hi; have:=h.le; omega) hp,by have:=h.len; simp [zFq,iz]; omega⟩
theorem zTO {L:List zB} {N:List zX} {O:List Nat} {m:Nat} (h:kF L O m) {c:Nat} {ph:Int} (hph:ph=2∧c<O.length∨ph=3∧0<c∧c≤O.length) {s:zD} {d:zA} {g:Nat} (hs:StU d s (some (zFq ph m O)) g) (hg:g<2147483647) (b:Bool):
    ∃ a' s' d' k,yY (agC L N O m c ph) b s d=some (a',s',d',k,0)∧
      (ph=2∧b=true∧c+1<O.length∧a'=agC L N O m (c+1) 2∧StU d' s' (some (zFq 2 m O)) (g+1)∨
       ph=2∧b=true∧c+1=O.length∧a'=agE L N O m (c+1)∧StU d' s' none (g+1)∨
       ph=2∧b=false∧c=0∧a'=agE L N O m 0∧StU d' s' none (g+1)∨
       ph=2∧b=false∧0<c∧a'=agC L N O m c 3∧StU d' s' (some (zFq 3 m O)) (g+1)∨
       ph=3∧1<c∧a'=agC L N O m (c - 1) 3∧StU d' s' (some (zFq 3 m O)) (g+1)∨
       ph=3∧c=1∧a'=agE L N O m 0∧StU d' s' none (g+1)):=by
  have up:∀ {v:Option (List Int)},StU d s v g→StU d s v (g+1):=fun h=>⟨h.sto,h.left,h.K,by have:=h.gen; omega⟩
  rcases hph with ⟨rfl,hc⟩ | ⟨rfl,h0,hc⟩
  · cases b with
    | true=>
      rw [zFy h hc]
      by_cases hl:c+1<O.length
      · rw [if_pos hl]
        exact ⟨_,_,_,_,rfl, .inl ⟨rfl,rfl,hl,rfl,up hs⟩⟩
      · rw [if_neg hl]
        obtain ⟨s',d',h1,h2⟩:=zIk (L:=L) (N:=N) (O:=O) (m:=m) (c:=c+1) (ph:=2) hs (by omega)
        rw [h1,bnd_some]
        exact ⟨_,_,_,_,rfl, .inr (.inl ⟨rfl,rfl,by omega,rfl,h2⟩)⟩
    | false=>
      rw [zTo h hc]
      by_cases h0:c=0
      · subst h0
        rw [if_pos rfl]
        obtain ⟨s',d',h1,h2⟩:=zIk (L:=L) (N:=N) (O:=O) (m:=m) (c:=0) (ph:=2) hs (by omega)
        rw [h1,bnd_some]
        exact ⟨_,_,_,_,rfl, .inr (.inr (.inl ⟨rfl,rfl,rfl,rfl,h2⟩))⟩
      · rw [if_neg h0]
        obtain ⟨q1,q2⟩:=h.rngJ (ph:=3) (by omega)
        obtain ⟨s',d',h1,h2⟩:=zVL hs (by omega) q1 q2
        rw [show (3::(m:Int)::iz O)=zFq 3 m O from rfl,h1,bnd_some]
        exact ⟨_,_,_,_,if_pos rfl, .inr (.inr (.inr (.inl ⟨rfl,rfl,by omega,rfl,h2⟩)))⟩
  · obtain ⟨c, rfl⟩ : ∃ e, c = e + 1 := ⟨c - 1, by omega⟩
    rw [zRQ h (by omega)]
    by_cases hl:0<c
    · rw [if_pos hl]
      exact ⟨_,_,_,_,rfl, .inr (.inr (.inr (.inr (.inl ⟨rfl,by omega,rfl,up hs⟩))))⟩
    · rw [if_neg hl]
      obtain rfl:c=0:=by omega
      obtain ⟨s',d',h1,h2⟩:=zIk (L:=L) (N:=N) (O:=O) (m:=m) (c:=0) (ph:=3) hs (by omega)
      rw [h1,bnd_some]
      exact ⟨_,_,_,_,rfl, .inr (.inr (.inr (.inr (.inr ⟨rfl,rfl,rfl,h2⟩))))⟩
end Go.Proofs.YtplchdlgdjcojaaGreatDoor
end
section
namespace Go.Proofs.YtplchdlgdjcojaaGreatDoor
open Go
set_option linter.unusedVariables false
set_option linter.unusedSimpArgs false
theorem zSZ (fails:List Bool) (j:Nat):∃ b,(bif decide ((j:Int)≥(fails.length:Int)) then (some true) else (bnd (elt fails (j:Int)) fun x1=>some (!x1)):Option Bool)=some b:=by
  by_cases h:j<fails.length
  · rw [decide_eq_false (by omega), cond_false, yS h, bnd_some]
    exact ⟨_,rfl⟩
  · rw [decide_eq_true (by omega), cond_true]
    exact ⟨_,rfl⟩
abbrev zTA:=zA × zD × zC × Bool × Int
def zXd (L:List zB) (N:List zX) (O:List Nat) (m:Nat) (g:Nat) (x:zTA):Prop:=
  ∃ j:Nat,x.2.2.2.2=(j:Int)∧((∃ c ph,(ph=2∧c<O.length∧x.2.2.2.1=false∧j=c∨ph=3∧0<c∧c≤O.length∧x.2.2.2.1=true∧j+c≤2*O.length)∧x.2.2.1=agC L N O m c ph∧StU x.1 x.2.1 (some (zFq ph m O)) (g+j))∨
    ∃ c,x.2.2.1=agE L N O m c∧(x.2.2.2.1=false∧c=O.length∨x.2.2.2.1=true∧c=0)∧StU x.1 x.2.1 none (g+j)∧j≤2*O.length)
theorem zRv {L:List zB} {N:List zX} {O:List Nat} {m:Nat} (h:kF L O m) (hOL:O.length≤L.length) {fails:List Bool} {g:Nat} (hg:g<1000) {n:Int} (hn:n=(L.length:Int)) {τ:Type} (bad:τ) (good:zA × zD × zC × Bool→τ) (f:zTA→Option (sQ zTA τ))
    (hm:∀ s2,f s2=bnd (xQ s2.2.2.1) fun r17=>bif (r17 != 0) then (bnd ((bif decide (s2.2.2.2.2≥(fails.length:Int)) then (some true) else (bnd (elt fails s2.2.2.2.2) fun x1=>some (!x1)):Option Bool)) fun o10=>bnd ((bif s2.2.2.2.1 then (some true) else (bnd (xQ s2.2.2.1) fun r18=>bif (r18==2) then (some (!o10)) else (some false)):Option Bool)) fun o11=>bnd (yY s2.2.2.1 o10 s2.2.1 s2.1) fun r19=>bnd ((bif (r19.2.2.2.2 != 0) then (some true) else (some (decide (s2.2.2.2.2>(IntKind.wrap .i64 (2*n))))):Option Bool)) fun o12=>bif o12 then (some (.done bad)) else (some (.next (r19.2.2.1,r19.2.1,r19.1,o11,IntKind.wrap .i64 (s2.2.2.2.2+1))))) else (some (.done (good (s2.1,s2.2.1,s2.2.2.1,s2.2.2.2.1)))))
    {x:zTA} (hx:zXd L N O m g x):∃ d s c u,yD f x=some (good (d,s,agE L N O m c,u))∧(u=false∧c=O.length∨u=true∧c=0)∧StU d s none (g+2*O.length):=by
  have h8:=h.le
  have key:=zFJ (m:=f) (zXd L N O m g) (fun x=>2*O.length+1 - x.2.2.2.2.toNat) (fun t=>∃ d s c u,t=good (d,s,agE L N O m c,u)∧(u=false∧c=O.length∨u=true∧c=0)∧StU d s none (g+2*O.length)) (fun x hI=>?_) x hx
  · obtain ⟨t, h1, d, s, c, u, rfl, h2⟩ := key
    exact ⟨d,s,c,u,h1,h2⟩
  obtain ⟨d,s,a,u,i⟩:=x
  obtain ⟨j,hj,hI⟩:=hI
  simp only at hj hI
  subst hj
  rw [hm]
  simp only [zKG,bnd_some]
  rcases hI with ⟨c,ph,hc,rfl,hS⟩ | ⟨c,rfl,hc,hS,hj⟩
  · refine .inl ?_
    have hph:(agC L N O m c ph).phase=ph:=rfl
    have hj2:j<2*O.length:=by rcases hc with ⟨_,_,_,_⟩ | ⟨_,_,_,_,_⟩ <;> omega
    rw [hph,xF (by rcases hc with ⟨rfl,_⟩ | ⟨rfl,_⟩ <;> rfl)]
    obtain ⟨b,hb⟩:=zSZ fails j
    rw [hb,bnd_some]
    obtain ⟨a',s',d',k,e1,e2⟩:=zTO (N:=N) h (by rcases hc with ⟨a,b,_,_⟩ | ⟨a,b,c,_,_⟩; exact .inl ⟨a,b⟩; exact .inr ⟨a,b,c⟩) hS (by omega) b
    obtain ⟨o11,q1,q2⟩:∃ o11,(bif u then (some true) else (bif (ph==2) then (some (!b)) else (some false)):Option Bool)=some o11∧o11=(u||((ph==2)&&!b)):=by
      refine ⟨_,?_,rfl⟩
      cases u <;> cases (ph==2) <;> rfl
    rw [q1,bnd_some,e1,bnd_some]
    have hw:IntKind.wrap .i64 (2*n)=2*(L.length:Int):=by rw [hn]; exact yO (by omega) (by omega)
    simp only [bne_self_eq_false,cond_false,bnd_some,hw]
    rw [decide_eq_false (by omega),cond_false]
    have hw2:IntKind.wrap .i64 ((j:Int)+1)=((j+1:Nat):Int):=by rw [yO (by omega) (by omega)]; omega
    rw [hw2]
    refine ⟨_,rfl,⟨j+1,rfl,?_⟩,by simp only [Int.toNat_natCast]; omega⟩
    simp only
    rw [←Nat.add_assoc]
    subst q2
    rcases e2 with ⟨rfl,rfl,z1,rfl,z2⟩ | ⟨rfl,rfl,z1,rfl,z2⟩ | ⟨rfl,rfl,z1,rfl,z2⟩ | ⟨rfl,rfl,z1,rfl,z2⟩ | ⟨rfl,z1,rfl,z2⟩ | ⟨rfl,z1,rfl,z2⟩
    all_goals rcases hc with ⟨y1,y2,rfl,y4⟩ | ⟨y1,y2,y3,rfl,y5⟩
    all_goals first
      | (exfalso; omega)
      | exact .inl ⟨_,_, .inl ⟨rfl,by omega,rfl,by omega⟩,rfl,z2⟩
      | exact .inl ⟨_,_, .inr ⟨rfl,by omega,by omega,rfl,by omega⟩,rfl,z2⟩
      | exact .inr ⟨_,rfl, .inl ⟨rfl,by omega⟩,z2,by omega⟩
      | exact .inr ⟨_,rfl, .inr ⟨rfl,by omega⟩,z2,by omega⟩
  · refine .inr ⟨_, rfl, d, s, c, u, rfl, hc, ?_⟩
    exact ⟨hS.sto,hS.left,hS.K,by have:=hS.gen; omega⟩
end Go.Proofs.YtplchdlgdjcojaaGreatDoor
end
section
namespace Go.Proofs.YtplchdlgdjcojaaGreatDoor
open Go
set_option linter.unusedVariables false
set_option linter.unusedSimpArgs false
theorem zKP {F:Nat} {G:Nat→Bool}:∀ {l:List Nat} {S:Nat},dZ F G S l→∀ i,F.testBit i=true→S.testBit i=true∨i∈l
  | [],S,h,i,hi=>.inl (by rw [show S=F from h]; exact hi)
  | j::l,S,h,i,hi=>by
    rcases zKP h.2 i hi with h1 | h1
    · by_cases he : i = j
      · exact .inr (by simp [he])
      · rw [Nat.testBit_or] at h1
        rcases Bool.or_eq_true_iff.1 h1 with h2 | h2
        · exact .inl h2
        · rw [Nat.testBit_two_pow_of_ne (fun hh => he hh.symm)] at h2
          cases h2
    · exact .inr (List.mem_cons_of_mem _ h1)
def vEq (x y:zJ):Bool:=(x.Major==y.Major)&&((x.Minor==y.Minor)&&((x.Patch==y.Patch)&&true))
def zLc (l:List zH) (d:zB) (u:Bool):zH:=match zBe l d.Name with
  | some x=>bif !u&&!vEq x.Version d.Slots.e0.Image.Version then x else d.Slots.e0.Image
  | none=>d.Slots.e0.Image
theorem zGl {d:zB} (h:Rdy d) (h0:d.Active=0):fC d=d.Slots.e0.Image.Version:=by
  unfold fC
  rw [(rD d).2 h.vd,cond_true,h.run,h0]
  rfl
theorem zSv {L:List zB} (hL:zSR L) (l:List zH) (N:List zX) {i:Nat} {d:zB} (hi:L[i]? =some d):
    gN ⟨wC L,tB (wC L) l,N⟩ i=match zBe l d.Name with | some x=>!vEq d.Slots.e0.Image.Version x.Version | none=>false:=by
  have hm:=List.mem_of_getElem? hi
  unfold gN
  have h1:(wC L)[i]? =some ⟨d.Name,d.Slots.e0.Image.Version⟩:=by rw [wC,List.getElem?_map,hi,Option.map_some,zGl (hL.1.rdy d hm) (hL.2 d hm)]
  have h2:(tB (wC L) l)[i]? =some ⟨d.Name,vOf l d.Name d.Slots.e0.Image.Version⟩:=by rw [tB,List.getElem?_map,h1]; rfl
  simp only [h1,h2,zOe]
  cases hx:zBe l d.Name with
  | none=>simp
  | some x=>rfl
theorem zJy (x y:zJ):vEq x y=vEq y x:=by
  unfold vEq
  rw [Bool.eq_iff_iff]
  simp only [Bool.and_eq_true,beq_iff_eq,and_true]
  constructor <;> rintro ⟨a,b,c⟩ <;> exact ⟨a.symm,b.symm,c.symm⟩
theorem zPI {a:zC} (hL:zSR a.devices) {B:zW} (hv:wO B=0) {O:List Nat} (hO:gU (sL a B)=some O) {c:Nat} {u:Bool} (hc:u=false∧c=O.length∨u=true∧c=0) {i:Nat} {d:zB} (hi:a.devices[i]? =some d):
    ∃ d',(stL (oJ a B) O c)[i]? =some d'∧d'.Name=d.Name∧Rdy d'∧(tW d'.Slots d'.Running).Image=zLc B.Images d u:=by
  have hm:=List.mem_of_getElem? hi
  have hr:=hL.1.rdy d hm
  have h0:=hL.2 d hm
  have hpath:=zBc hO
  have hbit:(yQ (sL a B)).testBit i=match zBe B.Images d.Name with | some x=>!vEq d.Slots.e0.Image.Version x.Version | none=>false:=by
    rw [zEQ,←zSv hL B.Images a.needs hi]
    have:i<(sL a B).Now.length:=by
      have:=(List.getElem?_eq_some_iff.1 hi).1
      simpa [sL,wC] using this
    rw [decide_eq_true this,Bool.true_and]
    rfl
  by_cases hb:(yQ (sL a B)).testBit i=true
  · obtain ⟨d1, x, e1, e2, e3, e4, e5, e6⟩ := zEo hL.1 hv hb
    rw [hi] at e1
    injection e1 with e1
    subst e1
    have hmem:i∈O:=by
      rcases zKP hpath i hb with h | h
      · simp at h
      · exact h
    rw [e2,hb] at hbit
    have hne:vEq x.Version d.Slots.e0.Image.Version=false:=by
      rw [zJy]
      simpa using hbit.symm
    have hE:zLc B.Images d u=bif u then d.Slots.e0.Image else x:=by
      unfold zLc
      rw [e2]
      simp only
      rw [hne]
      cases u <;> rfl
    rw [jA,e5,Option.map_some,hE]
    have hrun:d.Running=0:=by rw [hr.run,h0]
    rcases hc with ⟨rfl,rfl⟩ | ⟨rfl,rfl⟩
    · rw [List.take_length, if_pos hmem]
      refine ⟨_,rfl,rfl,(zJP e6).1,?_⟩
      show (tW (lW d.Slots (1 - d.Running) ⟨x,mZ x⟩) (1 - d.Active)).Image=x
      rw [h0,hrun]
      rfl
    · rw [List.take_zero, if_neg (by simp)]
      refine ⟨_,rfl,rfl,e6.1,?_⟩
      show (tW (lW d.Slots (1 - d.Running) ⟨x,mZ x⟩) d.Running).Image=d.Slots.e0.Image
      rw [hrun]
      rfl
  · have hmem : i ∉ O := fun h => hb (zCX hpath i h)
    have hE:zLc B.Images d u=d.Slots.e0.Image:=by
      unfold zLc
      cases hx:zBe B.Images d.Name with
      | none=>rfl
      | some x=>
        rw [hx] at hbit
        have hne:vEq x.Version d.Slots.e0.Image.Version=true:=by
          rw [zJy]
          cases hq:vEq d.Slots.e0.Image.Version x.Version
          · simp only [hq] at hbit; exact absurd hbit hb
          · rfl
        simp only
        rw [hne]
        simp
    rw [jA,zEm,hi,Option.map_some,Option.map_some,if_neg hb,if_neg (fun h=>hmem (List.mem_of_mem_take h)),hE]
    refine ⟨_,rfl,rfl,hr,?_⟩
    rw [hr.run,h0]
    rfl
end Go.Proofs.YtplchdlgdjcojaaGreatDoor
end
section
namespace Go.Proofs.YtplchdlgdjcojaaGreatDoor
open Go
set_option linter.unusedVariables false
set_option linter.unusedSimpArgs false
theorem zTz {B:zW} (hB:B.Images.length≤8) (hd:pM (B.Images.map (·.Name))) (d:zB) (u:Bool) {n:ByteArray} (hn:n=d.Name):
    (bnd (tV B n) fun r21=>bnd ((bif !u then (bif decide (r21≥0) then (bif decide (r21<(B.Images.length:Int)) then (bnd (elt B.Images r21) fun x4=>some (!((x4.Version.Major==d.Slots.e0.Image.Version.Major)&&((x4.Version.Minor==d.Slots.e0.Image.Version.Minor)&&((x4.Version.Patch==d.Slots.e0.Image.Version.Patch)&&true))))) else (some false)) else (some false)) else (some false):Option Bool)) fun o16=>bif o16 then (bnd (elt B.Images r21) fun x5=>some x5) else (some d.Slots.e0.Image))=some (zLc B.Images d u):=by
  subst hn
  rw [zAs B d.Name (by omega),bnd_some]
  unfold zLc
  cases hx:zBe B.Images d.Name with
  | none=>
    rw [zRV hx]
    cases u <;> rfl
  | some x=>
    obtain ⟨k,hk,e1,e2,e3⟩:=zFD hd hx
    rw [e3,decide_eq_true (by omega:(k:Int)≥0),decide_eq_true (by omega:(k:Int)<(B.Images.length:Int)),yS hk,e1]
    simp only [cond_true,bnd_some]
    change _=some (bif !u&&!vEq x.Version d.Slots.e0.Image.Version then x else d.Slots.e0.Image)
    cases u
    · simp only [Bool.not_false, cond_true, bnd_some, Bool.true_and]
      change (bif !vEq x.Version d.Slots.e0.Image.Version then _ else _)=_
      cases vEq x.Version d.Slots.e0.Image.Version <;> rfl
    · rfl
theorem zKB {L D:List zB} {B:zW} (hB:B.Images.length≤8) (hd:pM (B.Images.map (·.Name))) (hl:D.length=L.length) (h8:L.length≤8) (u:Bool)
    (hD:∀ (i:Nat) d,L[i]? =some d→∃ d',D[i]? =some d'∧d'.Name=d.Name∧Rdy d'∧(tW d'.Slots d'.Running).Image=zLc B.Images d u) {τ:Type} (bad good:τ) (f:Int→Option (sQ Int τ))
    (hf:∀ s3,f s3=bif decide (s3<(D.length:Int)) then (bnd (elt D s3) fun x2=>bnd (elt L s3) fun x3=>bnd (tV B x2.Name) fun r21=>bnd ((bnd ((bif !u then (bif decide (r21≥0) then (bif decide (r21<(B.Images.length:Int)) then (bnd (elt B.Images r21) fun x4=>some (!((x4.Version.Major==x3.Slots.e0.Image.Version.Major)&&((x4.Version.Minor==x3.Slots.e0.Image.Version.Minor)&&((x4.Version.Patch==x3.Slots.e0.Image.Version.Patch)&&true))))) else (some false)) else (some false)) else (some false):Option Bool)) fun o16=>bif o16 then (bnd (elt B.Images r21) fun x5=>some x5) else (some x3.Slots.e0.Image):Option zH)) fun o15=>bnd ((bnd (vZ x2) fun r22=>bif !r22 then (some true) else (bnd (elt [x2.Slots.e0,x2.Slots.e1] x2.Running) fun x6=>bnd (uE x6.Image o15) fun r23=>some (!r23)):Option Bool)) fun o17=>bif o17 then (some (.done bad)) else (some (.next (IntKind.wrap .i64 (s3+1))))) else (some (.done good))):
    yD f 0=some good:=by
  refine qD (fun i=>(i:Int)) D.length (fun i hi=>?_) ?_
  · rw [hf, decide_eq_true (by omega : (i : Int) < (D.length : Int)), cond_true]
    have hi2:i<L.length:=by omega
    obtain ⟨d',e1,e2,e3,e4⟩:=hD i L[i] (List.getElem?_eq_getElem hi2)
    rw [elt_nat,e1,yS hi2,bnd_some,bnd_some]
    have hc:=zTz hB hd L[i] u e2
    rw [zAs B d'.Name (by omega),bnd_some] at hc
    rw [zAs B d'.Name (by omega),bnd_some,hc,bnd_some,mY,(rD d').2 e3.vd,bnd_some]
    rw [Bool.not_true,cond_false,zFP _ e3.vd.br,bnd_some,e4,aS,bnd_some,bnd_some]
    rw [Bool.not_true,cond_false,zR hi (by omega)]
  · rw [hf,decide_eq_false (by omega:¬ ((D.length:Nat):Int)<(D.length:Int)),cond_false]
end Go.Proofs.YtplchdlgdjcojaaGreatDoor
end
section
namespace Go.Proofs.YtplchdlgdjcojaaGreatDoor
open Go
set_option linter.unusedVariables false
set_option linter.unusedSimpArgs false
def gR:zW:=⟨[⟨⟨#[98,105,111,115]⟩,⟨2,0,0⟩, [2]⟩,⟨⟨#[109,101]⟩,⟨2,0,0⟩, [2]⟩], []⟩
def oE:List zX:= [⟨⟨#[98,105,111,115]⟩,⟨2,0,0⟩,⟨#[109,101]⟩,⟨2,0,0⟩⟩]
def iH:List zB:= [(zBY ⟨⟨#[98,105,111,115]⟩,⟨1,0,0⟩, [1]⟩).1,(zBY ⟨⟨#[109,101]⟩,⟨1,0,0⟩, [1]⟩).1]
def bG:List zM:= [⟨⟨#[98,105,111,115]⟩,⟨1,0,0⟩⟩,⟨⟨#[109,101]⟩,⟨1,0,0⟩⟩]
theorem cU:wO gR=0:=by decide+kernel
theorem zFQ:zGF gR:=by
  intro x hx
  simp only [gR,List.mem_cons,List.not_mem_nil,or_false] at hx
  rcases hx with rfl | rfl <;> exact zIA (by omega)
theorem zFz:zSR iH:=by
  have h1:=zMm (n:=⟨#[98,105,111,115]⟩) (v:=1) (x:=1) (by decide+kernel) (by omega)
  have h2:=zMm (n:=⟨#[109,101]⟩) (v:=1) (x:=1) (by decide+kernel) (by omega)
  refine ⟨⟨by simp [iH],by simp [iH],?_,fun d hd=>?_⟩,fun d hd=>?_⟩
  · unfold iH
    rw [List.map_cons,List.map_cons,List.map_nil]
    rw [h1.2.2,h2.2.2]
    decide+kernel
  · simp only [iH, List.mem_cons, List.not_mem_nil, or_false] at hd
    rcases hd with rfl | rfl
    · exact h1.1
    · exact h2.1
  · simp only [iH, List.mem_cons, List.not_mem_nil, or_false] at hd
    rcases hd with rfl | rfl
    · exact h1.2.1
    · exact h2.2.1
theorem zHG:wC iH=bG:=by
  have h1:=zFz.1.rdy
  have h2:=zFz.2
  have r1:wJ ⟨⟨#[98,105,111,115]⟩,⟨1,0,0⟩, [1]⟩=true:=by decide+kernel
  have r2:wJ ⟨⟨#[109,101]⟩,⟨1,0,0⟩, [1]⟩=true:=by decide+kernel
  unfold wC iH
  rw [List.map_cons,List.map_cons,List.map_nil]
  rw [zGl (h1 _ (by simp [iH])) (h2 _ (by simp [iH])),zGl (h1 _ (by simp [iH])) (h2 _ (by simp [iH]))]
  unfold zBY
  rw [r1,r2]
  rfl
theorem zWY:lQ bG oE gR=(⟨bG,tB bG gR.Images,oE⟩,0):=zKY (by decide+kernel)
theorem zVg:sH ⟨bG,tB bG gR.Images,oE⟩=0:=by decide+kernel
theorem zVY:gU ⟨bG,tB bG gR.Images,oE⟩=some [1,0]:=by decide+kernel
theorem zXq:(kH gR).length=44:=by decide+kernel
theorem zTs:jE=some true:=by
  obtain ⟨n1,s,n2,hS⟩:=zNm
  have hL:=zFz
  have hN:pW oE=true:=by decide+kernel
  have hop:=zJx hL.1 (N:=oE) hN hS.sto (by rw [hS.K]; rfl)
  have hE:tL gR=some (iz (kH gR),0):=by rw [zLt,zOl cU,zEk cU zFQ]
  have hl:=zXq
  have hlt:xT (kH gR):=by
    obtain ⟨b,q1,q2,q3⟩:=zHo zFQ
    have:=zNs cU zFQ
    rw [zOl cU,zEk cU zFQ] at q3
    have hz:kH gR=b:=by
      have hinj:∀ (x y:List Nat),iz x=iz y→x=y:=fun x y h=>by have:=congrArg (List.map Int.toNat) h; simpa [iz,List.map_map,Function.comp_def] using this
      exact hinj _ _ q3
    rw [hz]
    exact q1
  have hdec:rY (kH gR)=(gR,0):=zNs cU zFQ
  generalize kH gR=bb at*
  unfold jE
  rw [n1,bnd_some]
  generalize zDw 2 1024=D at*
  show bnd (wQ D 0) _=_
  rw [n2,bnd_some]
  refine yA (zKF (by simp [small])) ?_
  refine yA (zKF (by simp [small])) ?_
  show bnd (tZ s iH oE D) _=_
  rw [hop,bnd_some]
  show bnd (tL gR) _=_
  rw [hE,bnd_some]
  show bnd (bif decide (((iz bb).length:Int)<1) then (some true) else (some (decide (((iz bb).length:Int)>128)))) _=_
  have hz:(iz bb).length=44:=by rw [iz_len,hl]
  rw [decide_eq_false (by omega),cond_false,bnd_some,decide_eq_false (by omega),cond_false]
  show bnd (xR (ag0 iH oE) ((iz bb).length:Int) 64) _=_
  rw [zKW (.inl rfl) (by omega) (by omega),bnd_some]
  have hc1:wK (iz bb).length=1:=by rw [hz]; rfl
  have hsg:=zNL (b:=iz bb) (k:=0) (by omega) (by omega)
  refine yA hsg ?_
  refine yA (zOb (ag0 iH oE) (b:=iz bb) (k:=0) (by omega) (by omega) (by omega)) ?_
  rw [decide_eq_false (by omega:¬ ((iz bb).length:Int)>64),cond_false,bnd_some]
  have hcm:=zCg (a:=ag0 iH oE) hL.1 rfl hN hlt (by omega) (by omega) s D
  rw [hdec] at hcm
  have hcb:wK bb.length=0+1:=by rw [hl]; rfl
  rw [hcb] at hcm
  have hpo:sL (ag0 iH oE) gR=⟨bG,tB bG gR.Images,oE⟩:=by
    show (⟨wC iH,tB (wC iH) gR.Images,oE⟩:xB)=_
    rw [zHG]
  have hpf:lQ (wC (ag0 iH oE).devices) (ag0 iH oE).needs gR=(⟨bG,tB bG gR.Images,oE⟩,0):=by
    show lQ (wC iH) oE gR=_
    rw [zHG,zWY]
  have hv:=zVg
  have ho:=zVY
  rw [←hpo] at hv ho
  simp only [hpf] at hcm
  rcases hcm with ⟨e,he,q1,q2⟩ | ⟨q1,q2,q3,q4,q5⟩ | ⟨q1,q2,q3,O,q4,q5,q6⟩
  · exfalso
    rcases q2 with q2 | ⟨_,⟨q2,_⟩ | ⟨_,q2⟩⟩
    · exact he q2.symm
    · exact he q2.symm
    · rw [zLa, if_pos hv, ho] at q2
      injection q2 with q2
      injection q2 with q2 q3
      cases q2
  · rw [ho] at q4
    cases q4
  · rw [ho] at q4
    obtain rfl: [1,0]=O:=Option.some.inj q4
    have hord:=zIw (a:=ag0 iH oE) hL.1 cU hv ho
    generalize hLL:oJ (ag0 iH oE) gR=LL at*
    obtain ⟨w1,w2⟩:=hord.rngJ (ph:=2) (by omega)
    obtain ⟨s',d',p1,p2⟩:=zVL hS (by omega) w1 w2
    unfold zFq at p1
    rw [p1,bnd_some] at q6
    have q7:xX (dlA (ag0 iH oE) (iz bb) (0+1)) s D=some (agC LL oE [1,0] (bV LL LL.length) 0 2,s',d',0):=q6
    refine yA q7 ?_
    have s1:=zFy (N:=oE) hord (c:=0) (by decide) s' d'
    rw [if_pos (by decide)] at s1
    refine yA s1 ?_
    have s2:=zFy (N:=oE) hord (c:=0+1) (by decide) s' d'
    rw [if_neg (by decide)] at s2
    obtain ⟨s3,d3,t1,t2⟩:=zIk (L:=LL) (N:=oE) (O:= [1,0]) (m:=bV LL LL.length) (c:=0+1+1) (ph:=2) p2 (by omega)
    rw [t1,bnd_some] at s2
    refine yA s2 ?_
    rfl
end Go.Proofs.YtplchdlgdjcojaaGreatDoor
end
section
namespace Go.Proofs.YtplchdlgdjcojaaGreatDoor
open Go
set_option linter.unusedVariables false
set_option linter.unusedSimpArgs false
theorem zIm {l:List zB} (h:l.length≤1000):pL l l=some true:=by
  unfold pL
  rw [show ((l.length:Int) != (l.length:Int))=false by simp,cond_false]
  refine xW (fun i=>(i:Int)) l.length (.inr ()) rfl (fun i hi=>?_) ?_ rfl
  · rw [decide_eq_true (by omega:(i:Int)<(l.length:Int)),cond_true,yS hi,bnd_some,bnd_some,zOV,bnd_some,Bool.not_true,cond_false,zR hi (by omega)]
  · rw [decide_eq_false (by omega:¬ (l.length:Int)<(l.length:Int)),cond_false]
theorem zOq (codes:List Int) (fails:List Bool) (h:okL (inK .u8) codes) (_:okL okB fails):mI codes fails=some true:=by
  unfold mI
  obtain ⟨c,e1,hc⟩:=zOL h (most:=200) (by omega) (by omega)
  obtain ⟨r3,e2,hc3,hL⟩:=zMX hc (most:=5) (by omega) (by omega)
  obtain ⟨r4,e3,hc4,hN⟩:=zRO hc3 hL.1
  obtain ⟨r9,e9,hc9,hb9⟩:=zRD hc4 hL.1.le (N:=r4.2) (by have:=hN.len; omega)
  obtain ⟨n1,s,n2,hS⟩:=zNm
  have hop:=zJx hL.1 (N:=r4.2) hN.ok hS.sto (by rw [hS.K]; rfl)
  rw [zTs,bnd_some,Bool.not_true,cond_false,e1,bnd_some,show (5:Int)=((5:Nat):Int) from rfl,e2,bnd_some,e3,bnd_some,n1,bnd_some]
  generalize zDw 2 1024=D at*
  show bnd (wQ D 0) _=_
  rw [n2,bnd_some]
  show bnd (tZ s r3.2 r4.2 D) _=_
  rw [hop,bnd_some]
  show bnd (pS r4.1 r3.2 r4.2) _=_
  rw [e9,bnd_some]
  show bnd (xR (ag0 r3.2 r4.2) (r9.2.length:Int) 64) _=_
  obtain ⟨bb,hb,hbl,hbe⟩:=hb9
  by_cases h0:bb.length=0
  · have : r9.2 = [] := by rw [hbe, List.length_eq_zero_iff.1 h0]; rfl
    rw [this,zPF (.inl rfl),bnd_some]
    rfl
  have hrl:r9.2.length=bb.length:=by rw [hbe,iz_len]
  rw [zKW (.inl rfl) (by omega) (by omega),bnd_some]
  simp only [bne_self_eq_false,cond_false]
  refine yA (zTt (τ:=Bool ⊕ zC) (ag0 r3.2 r4.2) (b:=r9.2) (by omega) (by omega) (fun _ _=>.done (.inl false)) (fun a=>.inr a) _ (fun s1=>rfl)) ?_
  rw [retOr_inr,hbe,zDO hb (by omega),bnd_some,iz_len]
  have hdl:=zCg (a:=ag0 r3.2 r4.2) hL.1 rfl hN.ok hb (by omega) hbl s D
  rcases hdl with ⟨e,he,q1,q2⟩ | ⟨q1,q2,q3,q4,q5⟩ | ⟨q1,q2,q3,O,q4,q5,q6⟩
  · rw [q1, bnd_some, xF (by simpa using he), zKG]
    rw [show (dlA (ag0 r3.2 r4.2) (iz bb) (wK bb.length)).phase=1 from rfl,bnd_some]
    rw [show ((1:Int)==1)=true from rfl,cond_true,zJn (a:=dlA (ag0 r3.2 r4.2) (iz bb) (wK bb.length)) (by show r3.2.length≤1000; have:=hL.1.le; omega) (fun d hd=>(hL.1.rdy d hd).sm),bnd_some]
    show bnd (bnd (pL r3.2 r3.2) _) _=_
    rw [zIm (by have:=hL.1.le; omega)]
    rfl
  · have hv := zII q1
    obtain ⟨v1,v2,v3,v4,v5⟩:=jZ hv
    rw [q5,bnd_some]
    simp only [bne_self_eq_false,cond_false]
    rw [xM (t:=.inr (D,s,(⟨true,r3.2,r4.2,0,zPf,0, []⟩:zC),false)) (by rfl),bnd_some,retOr_inr]
    rw [zJn (a:=⟨true,r3.2,r4.2,0,zPf,0, []⟩) (by show r3.2.length≤1000; have:=hL.1.le; omega) (fun d hd=>(hL.1.rdy d hd).sm),bnd_some]
    show bnd (yD _ _) _=_
    have hE:=fun (i:Nat) (d:zB) (hi:r3.2[i]? =some d)=>zPI (a:=ag0 r3.2 r4.2) hL hv q4 (c:=0) (u:=false) (.inl ⟨rfl,rfl⟩) hi
    have hcom:stL (oJ (ag0 r3.2 r4.2) (rY bb).1) [] 0=r3.2:=by
      rw [zKs]
      refine List.ext_getElem? fun i=>?_
      rw [zEm,←(show (0:Nat)=yQ (sL (ag0 r3.2 r4.2) (rY bb).1) from zBc q4)]
      simp
      rfl
    rw [hcom] at hE
    refine yA (zKB (τ:=Bool ⊕ Unit) v2 (nY hv) rfl hL.1.le false hE (.inl false) (.inr ()) _ (fun s3=>rfl)) ?_
    rw [retOr_inr,q1]
    rfl
  · have hv := zII q1
    obtain ⟨v1,v2,v3,v4,v5⟩:=jZ hv
    have hord:=zIw (a:=ag0 r3.2 r4.2) hL.1 hv q3 q4
    obtain ⟨w1,w2⟩:=hord.rngJ (ph:=2) (by omega)
    obtain ⟨s',d',p1,p2⟩:=zVL hS (by omega) w1 w2
    rw [q6]
    unfold zFq at p1
    rw [p1,bnd_some]
    simp only [if_true,bnd_some,bne_self_eq_false,cond_false]
    have hOl:0<O.length:=List.length_pos_iff.2 q5
    have hOL:O.length≤(oJ (ag0 r3.2 r4.2) (rY bb).1).length:=by
      have:=hord.nd.length_le_of_subset (l₂:=List.range (oJ (ag0 r3.2 r4.2) (rY bb).1).length) (fun i hi=>List.mem_range.2 (hord.lt hi))
      simpa using this
    obtain ⟨df,sf,cf,uf,l1,l2,l3⟩:=zRv (N:=r4.2) hord hOL (fails:=fails) (g:=1) (by omega) (n:=(r3.2.length:Int)) (by simp [ag0]) (τ:=Bool ⊕ (zA × zD × zC × Bool)) (.inl false) (fun x=>.inr x) _ (fun s2=>rfl) (x:=(d',s',agC (oJ (ag0 r3.2 r4.2) (rY bb).1) r4.2 O (bV (oJ (ag0 r3.2 r4.2) (rY bb).1) (oJ (ag0 r3.2 r4.2) (rY bb).1).length) 0 2,false,0)) ⟨0,rfl, .inl ⟨0,2, .inl ⟨rfl,hOl,rfl,rfl⟩,rfl,p2⟩⟩
    refine yA l1 ?_
    rw [retOr_inr]
    have hE:=fun (i:Nat) (d:zB) (hi:r3.2[i]? =some d)=>zPI (a:=ag0 r3.2 r4.2) hL hv q4 (c:=cf) (u:=uf) l2 hi
    have hlen:(stL (oJ (ag0 r3.2 r4.2) (rY bb).1) O cf).length=r3.2.length:=by simp [stL,ag0]
    have hsm:∀ d∈stL (oJ (ag0 r3.2 r4.2) (rY bb).1) O cf,oS d:=by
      intro d hd
      obtain ⟨i,hi,rfl⟩:=List.mem_iff_getElem.1 hd
      obtain ⟨d2,z1,_,z2,_⟩:=hE i (r3.2[i]'(by omega)) (List.getElem?_eq_getElem _)
      rw [List.getElem?_eq_getElem hi] at z1
      injection z1 with z1
      rw [z1]
      exact z2.sm
    rw [zJn (a:=agE (oJ (ag0 r3.2 r4.2) (rY bb).1) r4.2 O _ cf) (by show (stL _ O cf).length≤1000; have:=hL.1.le; omega) hsm,bnd_some]
    show bnd (yD _ _) _=_
    refine yA (zKB v2 (nY hv) hlen hL.1.le uf hE (.inl false) (.inr ()) _ (fun s3=>rfl)) ?_
    rw [retOr_inr,q1]
    rfl
end Go.Proofs.YtplchdlgdjcojaaGreatDoor
end
