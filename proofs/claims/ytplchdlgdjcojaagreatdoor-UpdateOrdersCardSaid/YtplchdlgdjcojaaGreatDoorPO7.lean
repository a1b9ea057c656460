/-
  Texts of this seat, put together: rules, walks, plain laws.
  Conditions: none.
-/
import Derived.Test.YtplchdlgdjcojaaGreatDoorPO6
section
namespace Go.Proofs.YtplchdlgdjcojaaGreatDoor
open Go
set_option linter.unusedVariables false
set_option linter.unusedSimpArgs false
theorem zLs {b:zV} (h:wJ b=0) {i:Nat} (hi:i+1<b.Images.length):Op.bytesLess b.Images[i].Name.toList b.Images[i+1].Name.toList=true:=by
 have h0:=gN h
 unfold wJ at h
 split at h
 ·cases h
 ·split at h
  ·rename_i e he
   exfalso
   obtain ⟨i,_,hi⟩:=List.exists_of_findSome?_eq_some he
   unfold lT at hi
   subst h
   split at hi
   ·cases hi
   ·split at hi
    ·cases hi
    ·split at hi
     ·cases hi
     ·cases hi
  ·rename_i he
   have:=List.findSome?_eq_none_iff.1 he (i+1) (List.mem_range.2 hi)
   unfold lT at this
   rw [List.getElem?_eq_getElem hi] at this
   simp only [Nat.add_sub_cancel] at this
   rw [List.getElem?_eq_getElem (by omega)] at this
   rw [if_neg (by rw [h0.2.2.1 _ (List.getElem_mem hi)]; simp)] at this
   simp only [Option.map_some,Option.getD_some] at this
   cases hb:Op.bytesLess b.Images[i].Name.toList b.Images[i+1].Name.toList
   ·simp [hb] at this
   ·rfl
theorem jI {b:zV} (h:wJ b=0):pC (b.Images.map (·.Name)):=by
 have hlt:∀ (j:Nat) (hj:j<b.Images.length) (i:Nat) (hi:i<j),Op.bytesLess (b.Images[i]'(Nat.lt_trans hi hj)).Name.toList b.Images[j].Name.toList=true:=by
  intro j
  induction j with
  | zero=>intro _ i hi; omega
  | succ j ih=>
   intro hj i hi
   by_cases he:i=j
   ·subst he; exact zLs h hj
   ·exact zDs _ _ _ (ih (by omega) i (by omega)) (zLs h hj)
 refine List.pairwise_iff_getElem.2 fun i j hi hj hij he=>?_
 rw [List.getElem_map,List.getElem_map] at he
 have:=hlt j (by simpa using hj) i hij
 rw [he,cB] at this
 cases this
theorem zIR {b:List Nat} (h:(rM b).2=0):wJ (rM b).1=0:=by
 unfold rM at h ⊢
 split
 ·rename_i h1; rw [if_pos h1] at h; cases h
 ·rename_i h1
  rw [if_neg h1] at h
  split
  ·rename_i h2; rw [if_pos h2] at h; cases h
  ·rename_i h2
   rw [if_neg h2] at h
   split
   ·rename_i h3; rw [if_pos h3] at h; cases h
   ·rename_i h3
    rw [if_neg h3] at h
    generalize b.take (b.length - 4)=q at*
    unfold zGP at h ⊢
    split
    ·rename_i h4; rw [if_pos h4] at h; cases h
    ·rename_i h4
     rw [if_neg h4] at h
     cases hp:zBi q with
     | none=>rw [hp] at h; cases h
     | some x=>
      rw [hp] at h
      obtain ⟨imgs,needs,rest⟩:=x
      simp only at h ⊢
      split
      ·rename_i h5; rw [if_pos h5] at h; cases h
      ·rename_i h5
       rw [if_neg h5] at h
       split
       ·rename_i h6; rw [if_pos h6] at h; cases h
       ·rename_i h6
        rw [if_neg h6] at h
        split
        ·rename_i h7; rw [if_pos h7] at h; exact absurd h h7
        ·rename_i h7; exact Classical.byContradiction fun hh=>h7 hh
theorem zMK (L:List zB):(yN L).map (·.Name)=L.map (·.Name):=by simp [yN,List.map_map,Function.comp_def]
theorem zSj {L:List zB} {l:List zJ} {N:List zX} {i:Nat} (h:iF ⟨yN L,wC (yN L) l,N⟩ i=true):∃ d x,L[i]? =some d∧aQ l d.Name=some x:=by
 unfold iF at h
 simp only at h
 by_cases hi:i<L.length
 ·have h1:(yN L)[i]? =some ⟨L[i].Name,pH L[i]⟩:=by rw [yN,List.getElem?_map,List.getElem?_eq_getElem hi]; rfl
  have h2:(wC (yN L) l)[i]? =some ⟨L[i].Name,vOf l L[i].Name (pH L[i])⟩:=by rw [wC,List.getElem?_map,h1]; rfl
  rw [h1,h2] at h
  simp only [zBH] at h
  cases hx:aQ l L[i].Name with
  | none=>rw [hx] at h; simp at h
  | some x=>exact ⟨L[i],x,List.getElem?_eq_getElem hi,hx⟩
 ·rw [List.getElem?_eq_none (by simp [yN]; omega)] at h
  cases h
def uF (a:zC) (B:zV):yY:=⟨yN a.devices,wC (yN a.devices) B.Images,a.needs⟩
theorem zJy {now:List zH} {N:List zX} {B:zV} (h:(kA now N B).2=0):kA now N B=(⟨now,wC now B.Images,N⟩,0):=by
 unfold kA at h ⊢
 split
 ·rename_i h1
  rw [if_pos h1] at h
  split
  ·rfl
  ·rename_i h2; rw [if_neg h2] at h; cases h
 ·rename_i h1; rw [if_neg h1] at h; cases h
theorem zOk (now:List zH) (N:List zX) (B:zV):(kA now N B).2=0∨(kA now N B).2=8∨(kA now N B).2=42:=by
 unfold kA
 split
 ·split
  ·exact .inl rfl
  ·exact .inr (.inr rfl)
 ·exact .inr (.inl rfl)
def uL (a:zC) (B:zV):List zB:=wrL a.devices B.Images (xQ (yN a.devices).length (yQ (uF a B))) (xQ (yN a.devices).length (yQ (uF a B))).length
theorem zKr (n F:Nat):(xQ n F).Nodup:=List.Pairwise.filter _ List.nodup_range
theorem zHG {n F k:Nat}:k∈xQ n F↔k<n∧F.testBit k=true:=by
 unfold xQ
 rw [List.mem_filter,List.mem_range]
theorem zEm (a:zC) (B:zV) (i:Nat):(uL a B)[i]? =a.devices[i]?.map fun d=>if (yQ (uF a B)).testBit i=true then zPu B.Images d else d:=by
 unfold uL
 rw [zCj,List.take_length]
 cases h:a.devices[i]? with
 | none=>rfl
 | some d=>
  have hi:=(List.getElem?_eq_some_iff.1 h).1
  have:(i∈xQ (yN a.devices).length (yQ (uF a B)))↔(yQ (uF a B)).testBit i=true:=by
   rw [zHG]
   simp [yN,hi]
  simp only [Option.map_some,this]
@[simp] theorem com_len (a:zC) (B:zV):(uL a B).length=a.devices.length:=by simp [uL]
theorem zEb {a:zC} (hd:DL a.devices) {B:zV} (hv:wJ B=0) {i:Nat} (hi:(yQ (uF a B)).testBit i=true):∃ d x,a.devices[i]? =some d∧aQ B.Images d.Name=some x∧x∈B.Images∧x.Name=d.Name∧(uL a B)[i]? =some (zDG d x)∧Two (zDG d x):=by
 rw [zCh] at hi
 obtain ⟨h1,h2⟩:=Bool.and_eq_true_iff.1 hi
 obtain ⟨d,x,h3,h4⟩:=zSj h2
 obtain ⟨k,hk,h5,h6,_⟩:=zFb (jI hv) h4
 have hx:x∈B.Images:=by rw [←h5]; exact List.getElem_mem hk
 refine ⟨d,x,h3,h4,hx,h6,?_,zOl (hd.rdy _ (List.mem_of_getElem? h3)) ((gN hv).2.2.1 x hx) h6⟩
 rw [zEm,h3,Option.map_some,zCh,hi,if_pos rfl]
 unfold zPu
 rw [h4]
theorem zHZ {a:zC} (hd:DL a.devices) {B:zV} (hv:wJ B=0):∀ d∈uL a B,Rdy d:=by
 intro d hm
 obtain ⟨i,hi,he⟩:=List.mem_iff_getElem.1 hm
 have h1:(uL a B)[i]? =some d:=by rw [List.getElem?_eq_getElem hi,he]
 by_cases hb:(yQ (uF a B)).testBit i=true
 ·obtain ⟨_,_,_,_,_,_,h2,h3⟩:=zEb hd hv hb
  rw [h1] at h2
  injection h2 with h2
  rw [h2]
  exact h3.1
 ·rw [zEm] at h1
  obtain ⟨d0,h4,h5⟩:=Option.map_eq_some_iff.1 h1
  rw [if_neg hb] at h5
  rw [←h5]
  exact hd.rdy _ (List.mem_of_getElem? h4)
theorem zIr {a:zC} (hd:DL a.devices) {B:zV} (hv:wJ B=0) (hp:tK (uF a B)=0) {O:List Nat} (hO:lH (uF a B)=some O):gT (uL a B) O (zAu (uL a B) (uL a B).length):=by
 have hpath:=zBn hO
 have h8:=hd.le
 refine ⟨(zEz hpath).1,by rw [com_len]; exact h8,fun i hi=>?_,fun i d h=>?_,zAj (by rw [com_len]; exact h8),zHZ hd hv,zMC hp hpath⟩
 ·obtain ⟨d,x,_,_,_,_,h1,h2⟩:=zEb hd hv (zAg hpath i hi)
  exact ⟨_,h1,h2⟩
 ·have hi:=(List.getElem?_eq_some_iff.1 h).1
  have hbit:=(zHZ hd hv d (List.mem_of_getElem? h)).vd.ba
  unfold zAu
  rw [zKo,h,decide_eq_true hi,Bool.true_and]
  rcases hbit with h0 | h0 <;> simp [h0]
theorem zBJ {a:zC} (hd:DL a.devices) (hst:a.store=true) (hN:pT a.needs=true) {bb:List Nat} (hb:xO bb) (h1:1≤bb.length) (h2:bb.length≤8192) (s:zD) (d:zA):
  (∃ e,e≠0∧xU (dlA a (iz bb) (xT bb.length)) s d=some (dlA a (iz bb) (xT bb.length),s,d,e)∧
   ((rM bb).2=e∨(rM bb).2=0∧((kA (yN a.devices) a.needs (rM bb).1).2=e∧(e=8∨e=42)∨(kA (yN a.devices) a.needs (rM bb).1).2=0∧wQ (uF a (rM bb).1)=some ([],e))))∨
  ((rM bb).2=0∧(kA (yN a.devices) a.needs (rM bb).1).2=0∧tK (uF a (rM bb).1)=0∧lH (uF a (rM bb).1)=some []∧
   xU (dlA a (iz bb) (xT bb.length)) s d=some (⟨a.store,a.devices,a.needs,0,zQc,a.before,a.order⟩,s,d,0))∨
  ((rM bb).2=0∧(kA (yN a.devices) a.needs (rM bb).1).2=0∧tK (uF a (rM bb).1)=0∧∃ O,lH (uF a (rM bb).1)=some O∧O≠ []∧
   xU (dlA a (iz bb) (xT bb.length)) s d=bnd (yB s [⟨32,2::(zAu (uL a (rM bb).1) (uL a (rM bb).1).length:Int)::iz O,false⟩] d) fun r=>
    if r.2.2=0 then some (agC (uL a (rM bb).1) a.needs O (zAu (uL a (rM bb).1) (uL a (rM bb).1).length) 0 2,r.1,r.2.1,0)
    else some (⟨true,uL a (rM bb).1,a.needs,1,dl (iz bb) (xT bb.length),(zAu (uL a (rM bb).1) (uL a (rM bb).1).length:Int),iz O⟩,r.1,r.2.1,r.2.2)):=by
 have hbl:(iz bb).length=bb.length:=iz_len bb
 have hlc:wP (dl (iz bb) (xT bb.length))=some true:=by
  rw [←hbl,zHp (by omega) (by omega) (Nat.le_refl _),decide_eq_true rfl]
 have hby:sD (dl (iz bb) (xT bb.length))=some (iz bb,0):=by
  have:=zWd (b:=iz bb) (by omega) (by omega)
  rw [hbl] at this
  exact this
 have hd8:=hd.le
 have hNl:a.needs.length≤16:=of_decide_eq_true (Bool.and_eq_true_iff.1 hN).1
 have pre:∀ (X:Option (zC × zD × zA × Int)),True:=fun _=>trivial
 unfold xU
 have hc1:(bnd ((bif ((dlA a (iz bb) (xT bb.length)).phase != 1) then (some true) else (bnd (wP (dlA a (iz bb) (xT bb.length)).load) fun r1=>some (!r1)):Option Bool)) fun o1=>some o1)=some false:=by
  show (bnd (bnd (wP (dl (iz bb) (xT bb.length))) fun r1=>some (!r1)) fun o1=>some o1)=_
  rw [hlc]
  rfl
 rw [zTN] at hc1
 rw [hc1,bnd_some,cond_false]
 show (∃ e,e≠0∧(bnd (sD (dl (iz bb) (xT bb.length))) _)=_∧_)∨_
 rw [show (dlA a (iz bb) (xT bb.length)).load=dl (iz bb) (xT bb.length) from rfl,hby]
 simp only [bnd_some,bne_self_eq_false,cond_false]
 rw [zDF hb (by omega)]
 simp only [bnd_some]
 by_cases he:(rM bb).2=0
 case neg=>
  refine .inl ⟨(rM bb).2,he,?_, .inl rfl⟩
  rw [xF (by simpa using he)]
 have hv:=zIR he
 rw [yS (by simpa using he)]
 generalize hB:(rM bb).1=B at*
 obtain ⟨v1,v2,v3,v4,v5⟩:=gN hv
 have hpl:tP (dlA a (iz bb) (xT bb.length)) B=some (kA (yN a.devices) a.needs B):=zTw (a:=dlA a (iz bb) (xT bb.length)) hd8 (by show pC ((yN a.devices).map (·.Name)); rw [zMK]; exact zGc hd.names) hNl v2 v4 (jI hv)
 rw [hpl,bnd_some]
 by_cases hp:(kA (yN a.devices) a.needs B).2=0
 case neg=>
  refine .inl ⟨(kA (yN a.devices) a.needs B).2,hp,?_, .inr ⟨he, .inl ⟨rfl,?_⟩⟩⟩
  ·rw [xF (by simpa using hp)]
  ·rcases zOk (yN a.devices) a.needs B with h | h | h
   ·exact absurd h hp
   ·exact .inl h
   ·exact .inr h
 rw [yS (by simpa using hp),zJy hp]
 show (∃ e,e≠0∧(bnd (wQ (uF a B)) _)=_∧_)∨_
 rw [show (⟨yN a.devices,wC (yN a.devices) B.Images,a.needs⟩:yY)=uF a B from rfl]
 rw [zCp]
 by_cases hvn:tK (uF a B)=0
 case neg=>
  rw [if_neg hvn]
  have hne:((tK (uF a B):Nat):Int)≠0:=by omega
  refine .inl ⟨(tK (uF a B):Int),hne,?_, .inr ⟨he, .inr ⟨rfl,rfl⟩⟩⟩
  rw [bnd_some,xF (by simpa using hne)]
 rw [if_pos hvn]
 cases hO:lH (uF a B) with
 | none=>
  refine .inl ⟨41,by decide,?_, .inr ⟨he, .inr ⟨rfl,rfl⟩⟩⟩
  rw [bnd_some]
  rfl
 | some O=>
  simp only [bnd_some,bne_self_eq_false,cond_false]
  by_cases hO0:O= []
  ·subst hO0
   refine .inr (.inl ⟨he,trivial,hvn,rfl,?_⟩)
   rfl
  refine .inr (.inr ⟨he,trivial,hvn,O,rfl,hO0,?_⟩)
  have hOl:0<O.length:=List.length_pos_iff.2 hO0
  rw [yS (by simp; omega),zSp,if_pos hvn,bnd_some]
  have hord:=zIr hd hv hvn hO
  have hpn:(uF a B).Now.length=(yN a.devices).length:=rfl
  have hsl:(xQ (yN a.devices).length (yQ (uF a B))).length≤8:=Nat.le_trans (List.length_filter_le _ _) (by simp [yN]; exact hd8)
  rw [hpn]
  refine yD (zOG (a:=dlA a (iz bb) (xT bb.length)) (B:=B) v2 (jI hv) v3 (zKr _ _) (by omega) (fun k hk=>?_) (fun a' e=>(a',s,d,e)) _ (fun _=>rfl)) ?_
  ·obtain ⟨dd,x,q1,q2,_⟩:=zEb hd hv (zHG.1 hk).2
   exact ⟨dd,x,q1,hd.rdy _ (List.mem_of_getElem? q1),q2⟩
  rw [retOr_inr]
  have hcl:eC (dlA a (iz bb) (xT bb.length)) (wrL (dlA a (iz bb) (xT bb.length)).devices B.Images (xQ (yN a.devices).length (yQ (uF a B))) (xQ (yN a.devices).length (yQ (uF a B))).length)=eC (dlA a (iz bb) (xT bb.length)) (uL a B):=rfl
  rw [hcl]
  refine yD (zSM (L:=uL a B) (by rw [com_len]; exact hd8) (fun dd hdd=>(zHZ hd hv dd hdd).vd.ba) _ (fun _=>rfl)) ?_
  rw [show (2:Int)=((2:Nat):Int) from rfl,zLz (O:=O) rfl hord.len (fun i hi=>by have:=hord.lt hi; rw [com_len] at this; omega) (by decide),bnd_some]
  show bnd (dP a.store) _=_
  rw [hst,show dP true=some true from rfl,bnd_some,zVl]
  show bnd (yB s [⟨32,2::(zAu (uL a B) (uL a B).length:Int)::iz O,false⟩] d) _=_
  cases yB s [⟨32,2::(zAu (uL a B) (uL a B).length:Int)::iz O,false⟩] d with
  | none=>rfl
  | some r=>
   simp only [bnd_some]
   by_cases h1:r.2.2=0
   ·rw [if_pos h1,yS (by simpa using h1)]
    unfold agC
    rw [zQY,←hst]
    rfl
   ·rw [if_neg h1,xF (by simpa using h1),←hst]
    rfl
end Go.Proofs.YtplchdlgdjcojaaGreatDoor
end
section
namespace Go.Proofs.YtplchdlgdjcojaaGreatDoor
open Go
set_option linter.unusedVariables false
set_option linter.unusedSimpArgs false
def jK:Option (List Int)→List zE
 | none=> []
 | some x=> [⟨32,x,false⟩]
structure StU (d:zA) (s:zD) (v:Option (List Int)) (g:Nat):Prop where
 sto:Sto d s 0
 left:d.left=0
 K:(openF d 0).K=jK v
 gen:(openF d 0).gen≤g
theorem zRb (v:Option (List Int)) (x:List Int):vE (jK v) [⟨32,x,false⟩]=jK (some x):=by
 cases v <;> rfl
theorem zPN (v:Option (List Int)):vE (jK v) [⟨32, [],true⟩]=jK none:=by
 cases v <;> rfl
theorem zWR {d:zA} {s:zD} {v:Option (List Int)} {g:Nat} (h:StU d s v g) (hg:g<2147483648) {x:List Int} (hx:rng x) (h28:x.length≤28):∃ s' d',yB s [⟨32,x,false⟩] d=some (s',d',0)∧StU d' s' (some x) (g+1):=by
 have hp:okP [⟨32,x,false⟩]:=⟨fun z hz=>by
  rw [List.mem_singleton] at hz
  subst hz
  exact ⟨⟨(by decide:(0:Int)≤32),(by decide:(32:Int)≤255)⟩,hx,h28,fun h=>by cases h⟩,List.pairwise_singleton _ _⟩
 have hk:vE (openF d 0).K [⟨32,x,false⟩]=jK (some x):=by rw [h.K,zRb]
 have hg':=h.gen
 obtain ⟨r,h1,h2,h3,h4,h5,_,h6⟩:=h.sto.sure h.left hp (by simp) (by rw [hk]; simp [jK]) (by omega) (fun _=>by rw [hk]; exact Nat.le_refl 1)
 rw [hk] at h4
 obtain ⟨s',d',e⟩:=r
 simp only at h2
 subst h2
 exact ⟨s',d',h1,h3,h6,h4,by simp only at h5; omega⟩
theorem zXg {d:zA} {s:zD} {v:Option (List Int)} {g:Nat} (h:StU d s v g) (hg:g<2147483648):∃ s' d',yB s [⟨32, [],true⟩] d=some (s',d',0)∧StU d' s' none (g+1):=by
 have hp:okP [⟨32, [],true⟩]:=⟨fun z hz=>by
  rw [List.mem_singleton] at hz
  subst hz
  exact ⟨⟨(by decide:(0:Int)≤32),(by decide:(32:Int)≤255)⟩,(fun x (hx:x∈ [])=>(List.not_mem_nil hx).elim),Nat.zero_le _,fun _=>rfl⟩,List.pairwise_singleton _ _⟩
 have hk:vE (openF d 0).K [⟨32, [],true⟩]=jK none:=by rw [h.K,zPN]
 have hg':=h.gen
 obtain ⟨r,h1,h2,h3,h4,h5,_,h6⟩:=h.sto.sure h.left hp (by simp) (by rw [hk]; simp [jK]) (by omega) (fun _=>by rw [hk]; decide)
 rw [hk] at h4
 obtain ⟨s',d',e⟩:=r
 simp only at h2
 subst h2
 exact ⟨s',d',h1,h3,h6,h4,by simp only at h5; omega⟩
theorem zOg:mS 2 1024=some (some (zAv 2 1024),0)∧∃ s,wM (zAv 2 1024) 0=some (zAv 2 1024,some s,0)∧StU (zAv 2 1024) s none 0:=by
 have hok:=zTA (n:=2) (m:=1024) (by omega) (by omega)
 obtain ⟨s,o1,o2⟩:=zJL (f:=0) hok rfl (by show (1024:Int)≤1024; omega) (by show 0+1<(List.replicate 2 (0:Int)).length; simp)
 have h0:(openF (zAv 2 1024) 0).K= []:=by rw [zHz (by omega) (by omega)]; rfl
 have g0:(openF (zAv 2 1024) 0).gen=0:=by rw [zHz (by omega) (by omega)]; rfl
 exact ⟨zUT (n:=2) (m:=1024) (by omega) (by omega),s,o1,o2,rfl,h0,by omega⟩
theorem zPG {m:Nat} (hm:m<256) {O:List Nat} (hO:∀ i∈O,i<8) {ph:Int} (hp:0≤ph∧ph≤255):rng (ph::(m:Int)::iz O):=by
 intro x hx
 rcases List.mem_cons.1 hx with h | h
 ·subst h; exact hp
 rcases List.mem_cons.1 h with h | h
 ·subst h; omega
 ·obtain ⟨i,hi,rfl⟩:=List.mem_map.1 h
  have:=hO i hi
  show 0≤(i:Int)∧(i:Int)≤255
  omega
theorem zQp {L:List zB} {N:List zX} {O:List Nat} {m c:Nat} {ph:Int} {s:zD} {d:zA} {v:Option (List Int)} {g:Nat} (h:StU d s v g) (hg:g<2147483648):
  ∃ s' d',zMg L N O m c ph s d=some (agE L N O m c,s',d',0)∧StU d' s' none (g+1):=by
 obtain ⟨s',d',h1,h2⟩:=zXg h hg
 refine ⟨s',d',?_,h2⟩
 unfold zMg
 rw [h1,bnd_some]
 rfl
def zIh (ph:Int) (m:Nat) (O:List Nat):List Int:=ph::(m:Int)::iz O
theorem gT.rngJ {L:List zB} {O:List Nat} {m:Nat} (h:gT L O m) {ph:Int} (hp:0≤ph∧ph≤255):rng (zIh ph m O)∧(zIh ph m O).length≤28:=⟨zPG h.small (fun i hi=>by have:=h.lt hi; have:=h.le; omega) hp,by have:=h.len; simp [zIh,iz]; omega⟩
end Go.Proofs.YtplchdlgdjcojaaGreatDoor
end
section
namespace Go.Proofs.YtplchdlgdjcojaaGreatDoor
open Go
set_option linter.unusedVariables false
set_option linter.unusedSimpArgs false
theorem zKO {F:Nat} {G:Nat→Bool}:∀ {l:List Nat} {S:Nat},cD F G S l→∀ i,F.testBit i=true→S.testBit i=true∨i∈l
 | [],S,h,i,hi=>.inl (by rw [show S=F from h]; exact hi)
 | j::l,S,h,i,hi=>by
  rcases zKO h.2 i hi with h1 | h1
  ·by_cases he:i=j
   ·exact .inr (by simp [he])
   ·rw [Nat.testBit_or] at h1
    rcases Bool.or_eq_true_iff.1 h1 with h2 | h2
    ·exact .inl h2
    ·rw [Nat.testBit_two_pow_of_ne (fun hh=>he hh.symm)] at h2
     cases h2
  ·exact .inr (List.mem_cons_of_mem _ h1)
def vEq (x y:zL):Bool:=(x.Major==y.Major)&&((x.Minor==y.Minor)&&((x.Patch==y.Patch)&&true))
def zLH (l:List zJ) (d:zB) (u:Bool):zJ:=match aQ l d.Name with
 | some x=>bif !u&&!vEq x.Version d.Slots.e0.Image.Version then x else d.Slots.e0.Image
 | none=>d.Slots.e0.Image
theorem zBE {d:zB} (h:Rdy d) (h0:d.Active=0):pH d=d.Slots.e0.Image.Version:=by
 unfold pH
 rw [(qH d).2 h.vd,cond_true,h.run,h0]
 rfl
theorem zQh {L:List zB} (hL:zLx L) (l:List zJ) (N:List zX) {i:Nat} {d:zB} (hi:L[i]? =some d):
  iF ⟨yN L,wC (yN L) l,N⟩ i=match aQ l d.Name with | some x=>!vEq d.Slots.e0.Image.Version x.Version | none=>false:=by
 have hm:=List.mem_of_getElem? hi
 unfold iF
 have h1:(yN L)[i]? =some ⟨d.Name,d.Slots.e0.Image.Version⟩:=by rw [yN,List.getElem?_map,hi,Option.map_some,zBE (hL.1.rdy d hm) (hL.2 d hm)]
 have h2:(wC (yN L) l)[i]? =some ⟨d.Name,vOf l d.Name d.Slots.e0.Image.Version⟩:=by rw [wC,List.getElem?_map,h1]; rfl
 simp only [h1,h2,zBH]
 cases hx:aQ l d.Name with
 | none=>simp
 | some x=>rfl
theorem zEV (x y:zL):vEq x y=vEq y x:=by
 unfold vEq
 rw [Bool.eq_iff_iff]
 simp only [Bool.and_eq_true,beq_iff_eq,and_true]
 constructor <;> rintro ⟨a,b,c⟩ <;> exact ⟨a.symm,b.symm,c.symm⟩
theorem zQQ {a:zC} (hL:zLx a.devices) {B:zV} (hv:wJ B=0) {O:List Nat} (hO:lH (uF a B)=some O) {c:Nat} {u:Bool} (hc:u=false∧c=O.length∨u=true∧c=0) {i:Nat} {d:zB} (hi:a.devices[i]? =some d):
  ∃ d',(stL (uL a B) O c)[i]? =some d'∧d'.Name=d.Name∧Rdy d'∧(tZ d'.Slots d'.Running).Image=zLH B.Images d u:=by
 have hm:=List.mem_of_getElem? hi
 have hr:=hL.1.rdy d hm
 have h0:=hL.2 d hm
 have hpath:=zBn hO
 have hbit:(yQ (uF a B)).testBit i=match aQ B.Images d.Name with | some x=>!vEq d.Slots.e0.Image.Version x.Version | none=>false:=by
  rw [zCh,←zQh hL B.Images a.needs hi]
  have:i<(uF a B).Now.length:=by
   have:=(List.getElem?_eq_some_iff.1 hi).1
   simpa [uF,yN] using this
  rw [decide_eq_true this,Bool.true_and]
  rfl
 by_cases hb:(yQ (uF a B)).testBit i=true
 ·obtain ⟨d1,x,e1,e2,e3,e4,e5,e6⟩:=zEb hL.1 hv hb
  rw [hi] at e1
  injection e1 with e1
  subst e1
  have hmem:i∈O:=by
   rcases zKO hpath i hb with h | h
   ·simp at h
   ·exact h
  rw [e2,hb] at hbit
  have hne:vEq x.Version d.Slots.e0.Image.Version=false:=by
   rw [zEV]
   simpa using hbit.symm
  have hE:zLH B.Images d u=bif u then d.Slots.e0.Image else x:=by
   unfold zLH
   rw [e2]
   simp only
   rw [hne]
   cases u <;> rfl
  rw [nY,e5,Option.map_some,hE]
  have hrun:d.Running=0:=by rw [hr.run,h0]
  rcases hc with ⟨rfl,rfl⟩ | ⟨rfl,rfl⟩
  ·rw [List.take_length,if_pos hmem]
   refine ⟨_,rfl,rfl,(zPL e6).1,?_⟩
   show (tZ (lP d.Slots (1 - d.Running) ⟨x,mZ x⟩) (1 - d.Active)).Image=x
   rw [h0,hrun]
   rfl
  ·rw [List.take_zero,if_neg (by simp)]
   refine ⟨_,rfl,rfl,e6.1,?_⟩
   show (tZ (lP d.Slots (1 - d.Running) ⟨x,mZ x⟩) d.Running).Image=d.Slots.e0.Image
   rw [hrun]
   rfl
 ·have hmem:i∉O:=fun h=>hb (zAg hpath i h)
  have hE:zLH B.Images d u=d.Slots.e0.Image:=by
   unfold zLH
   cases hx:aQ B.Images d.Name with
   | none=>rfl
   | some x=>
    rw [hx] at hbit
    have hne:vEq x.Version d.Slots.e0.Image.Version=true:=by
     rw [zEV]
     cases hq:vEq d.Slots.e0.Image.Version x.Version
     ·simp only [hq] at hbit; exact absurd hbit hb
     ·rfl
    simp only
    rw [hne]
    simp
  rw [nY,zEm,hi,Option.map_some,Option.map_some,if_neg hb,if_neg (fun h=>hmem (List.mem_of_mem_take h)),hE]
  refine ⟨_,rfl,rfl,hr,?_⟩
  rw [hr.run,h0]
  rfl
end Go.Proofs.YtplchdlgdjcojaaGreatDoor
end
section
namespace Go.Proofs.YtplchdlgdjcojaaGreatDoor
open Go
set_option linter.unusedVariables false
set_option linter.unusedSimpArgs false
def fA:zV:=⟨[⟨⟨#[98,105,111,115]⟩,⟨2,0,0⟩, [2]⟩,⟨⟨#[109,101]⟩,⟨2,0,0⟩, [2]⟩], []⟩
def pY:List zX:= [⟨⟨#[98,105,111,115]⟩,⟨2,0,0⟩,⟨#[109,101]⟩,⟨2,0,0⟩⟩]
def iE:List zB:= [(zCl ⟨⟨#[98,105,111,115]⟩,⟨1,0,0⟩, [1]⟩).1,(zCl ⟨⟨#[109,101]⟩,⟨1,0,0⟩, [1]⟩).1]
def cX:List zH:= [⟨⟨#[98,105,111,115]⟩,⟨1,0,0⟩⟩,⟨⟨#[109,101]⟩,⟨1,0,0⟩⟩]
theorem cT:wJ fA=0:=by decide+kernel
theorem zES:zGm fA:=by
 intro x hx
 simp only [fA,List.mem_cons,List.not_mem_nil,or_false] at hx
 rcases hx with rfl | rfl <;> exact zIB (by omega)
theorem zEE:zLx iE:=by
 have h1:=zLY (n:=⟨#[98,105,111,115]⟩) (v:=1) (x:=1) (by decide+kernel) (by omega)
 have h2:=zLY (n:=⟨#[109,101]⟩) (v:=1) (x:=1) (by decide+kernel) (by omega)
 refine ⟨⟨by simp [iE],by simp [iE],?_,fun d hd=>?_⟩,fun d hd=>?_⟩
 ·unfold iE
  rw [List.map_cons,List.map_cons,List.map_nil]
  rw [h1.2.2,h2.2.2]
  decide+kernel
 ·simp only [iE,List.mem_cons,List.not_mem_nil,or_false] at hd
  rcases hd with rfl | rfl
  ·exact h1.1
  ·exact h2.1
 ·simp only [iE,List.mem_cons,List.not_mem_nil,or_false] at hd
  rcases hd with rfl | rfl
  ·exact h1.2.1
  ·exact h2.2.1
theorem zHx:yN iE=cX:=by
 have h1:=zEE.1.rdy
 have h2:=zEE.2
 have r1:wK ⟨⟨#[98,105,111,115]⟩,⟨1,0,0⟩, [1]⟩=true:=by decide+kernel
 have r2:wK ⟨⟨#[109,101]⟩,⟨1,0,0⟩, [1]⟩=true:=by decide+kernel
 unfold yN iE
 rw [List.map_cons,List.map_cons,List.map_nil]
 rw [zBE (h1 _ (by simp [iE])) (h2 _ (by simp [iE])),zBE (h1 _ (by simp [iE])) (h2 _ (by simp [iE]))]
 unfold zCl
 rw [r1,r2]
 rfl
theorem zWP:kA cX pY fA=(⟨cX,wC cX fA.Images,pY⟩,0):=zJy (by decide+kernel)
theorem zVM:tK ⟨cX,wC cX fA.Images,pY⟩=0:=by decide+kernel
theorem zUO:lH ⟨cX,wC cX fA.Images,pY⟩=some [1,0]:=by decide+kernel
theorem zXf:(kF fA).length=44:=by decide+kernel
theorem zTy:jB=some true:=by
 obtain ⟨n1,s,n2,hS⟩:=zOg
 have hL:=zEE
 have hN:pT pY=true:=by decide+kernel
 have hop:=zKH hL.1 (N:=pY) hN hS.sto (by rw [hS.K]; rfl)
 have hE:tM fA=some (iz (kF fA),0):=by rw [zJo,zNj cT,zEk cT zES]
 have hl:=zXf
 have hlt:xO (kF fA):=by
  obtain ⟨b,q1,q2,q3⟩:=zHg zES
  have:=zNH cT zES
  rw [zNj cT,zEk cT zES] at q3
  have hz:kF fA=b:=by
   have hinj:∀ (x y:List Nat),iz x=iz y→x=y:=fun x y h=>by have:=congrArg (List.map Int.toNat) h; simpa [iz,List.map_map,Function.comp_def] using this
   exact hinj _ _ q3
  rw [hz]
  exact q1
 have hdec:rM (kF fA)=(fA,0):=zNH cT zES
 generalize kF fA=bb at*
 unfold jB
 rw [n1,bnd_some]
 generalize zAv 2 1024=D at*
 show bnd (wM D 0) _=_
 rw [n2,bnd_some]
 refine yD (zKN (by simp [small])) ?_
 refine yD (zKN (by simp [small])) ?_
 show bnd (tX s iE pY D) _=_
 rw [hop,bnd_some]
 show bnd (tM fA) _=_
 rw [hE,bnd_some]
 show bnd (bif decide (((iz bb).length:Int)<1) then (some true) else (some (decide (((iz bb).length:Int)>128)))) _=_
 have hz:(iz bb).length=44:=by rw [iz_len,hl]
 rw [decide_eq_false (by omega),cond_false,bnd_some,decide_eq_false (by omega),cond_false]
 show bnd (wG (ag0 iE pY) ((iz bb).length:Int) 64) _=_
 rw [zLi (.inl rfl) (by omega) (by omega),bnd_some]
 have hc1:xT (iz bb).length=1:=by rw [hz]; rfl
 have hsg:=zNv (b:=iz bb) (k:=0) (by omega) (by omega)
 refine yD hsg ?_
 refine yD (zOd (ag0 iE pY) (b:=iz bb) (k:=0) (by omega) (by omega) (by omega)) ?_
 rw [decide_eq_false (by omega:¬ ((iz bb).length:Int)>64),cond_false,bnd_some]
 have hcm:=zBJ (a:=ag0 iE pY) hL.1 rfl hN hlt (by omega) (by omega) s D
 rw [hdec] at hcm
 have hcb:xT bb.length=0+1:=by rw [hl]; rfl
 rw [hcb] at hcm
 have hpo:uF (ag0 iE pY) fA=⟨cX,wC cX fA.Images,pY⟩:=by
  show (⟨yN iE,wC (yN iE) fA.Images,pY⟩:yY)=_
  rw [zHx]
 have hpf:kA (yN (ag0 iE pY).devices) (ag0 iE pY).needs fA=(⟨cX,wC cX fA.Images,pY⟩,0):=by
  show kA (yN iE) pY fA=_
  rw [zHx,zWP]
 have hv:=zVM
 have ho:=zUO
 rw [←hpo] at hv ho
 simp only [hpf] at hcm
 rcases hcm with ⟨e,he,q1,q2⟩ | ⟨q1,q2,q3,q4,q5⟩ | ⟨q1,q2,q3,O,q4,q5,q6⟩
 ·exfalso
  rcases q2 with q2 | ⟨_,⟨q2,_⟩ | ⟨_,q2⟩⟩
  ·exact he q2.symm
  ·exact he q2.symm
  ·rw [zCp,if_pos hv,ho] at q2
   injection q2 with q2
   injection q2 with q2 q3
   cases q2
 ·rw [ho] at q4
  cases q4
 ·rw [ho] at q4
  obtain rfl: [1,0]=O:=Option.some.inj q4
  have hord:=zIr (a:=ag0 iE pY) hL.1 cT hv ho
  generalize hLL:uL (ag0 iE pY) fA=LL at*
  obtain ⟨w1,w2⟩:=hord.rngJ (ph:=2) (by omega)
  obtain ⟨s',d',p1,p2⟩:=zWR hS (by omega) w1 w2
  unfold zIh at p1
  rw [p1,bnd_some] at q6
  have q7:xU (dlA (ag0 iE pY) (iz bb) (0+1)) s D=some (agC LL pY [1,0] (zAu LL LL.length) 0 2,s',d',0):=q6
  refine yD q7 ?_
  have s1:=zFy (N:=pY) hord (c:=0) (by decide) s' d'
  rw [if_pos (by decide)] at s1
  refine yD s1 ?_
  have s2:=zFy (N:=pY) hord (c:=0+1) (by decide) s' d'
  rw [if_neg (by decide)] at s2
  obtain ⟨s3,d3,t1,t2⟩:=zQp (L:=LL) (N:=pY) (O:= [1,0]) (m:=zAu LL LL.length) (c:=0+1+1) (ph:=2) p2 (by omega)
  rw [t1,bnd_some] at s2
  refine yD s2 ?_
  rfl
end Go.Proofs.YtplchdlgdjcojaaGreatDoor
end
section
namespace Go.Proofs.YtplchdlgdjcojaaGreatDoor
open Go
set_option linter.unusedVariables false
set_option linter.unusedSimpArgs false
theorem StU.again {d:zA} {s:zD} {v:Option (List Int)} {g:Nat} (h:StU d s v g):∃ s',wM d 0=some (d,some s',0)∧StU d s' v g:=by
 obtain ⟨s',h1,h2⟩:=zJL (f:=0) h.sto.ok h.sto.down h.sto.size h.sto.first
 exact ⟨s',h1,h2,h.left,h.K,h.gen⟩
theorem zPH {c:xS} (hc:vV c):∃ c' L N s bb,jA c=some (c',zAv 2 1024,ag0 L N,iz bb,N,s)∧vV c'∧zLx L∧L.length≤4∧zTY L N∧StU (zAv 2 1024) s none 0∧xO bb∧bb.length≤8192:=by
 obtain ⟨r1,e2,hc3,hL,h4⟩:=zKv hc (most:=4) (by omega) (by omega)
 obtain ⟨r2,e3,hc4,hN⟩:=zQi hc3 hL.1
 obtain ⟨r9,e9,hc9,hb9⟩:=zQX hc4 hL.1.le (N:=r2.2) (by have:=hN.len; omega)
 obtain ⟨n1,s,n2,hS⟩:=zOg
 have hop:=zKH hL.1 (N:=r2.2) hN.ok hS.sto (by rw [hS.K]; rfl)
 obtain ⟨bb,hb,hbl,hbe⟩:=hb9
 refine ⟨r9.1,r1.2,r2.2,s,bb,?_,hc9,hL,h4,hN,hS,hb,hbl⟩
 unfold jA
 rw [show (4:Int)=((4:Nat):Int) from rfl,e2,bnd_some,e3,bnd_some,n1,bnd_some]
 generalize zAv 2 1024=D at*
 show bnd (wM D 0) _=_
 rw [n2,bnd_some]
 show bnd (tX s r1.2 r2.2 D) _=_
 rw [hop,bnd_some]
 show bnd (pN r2.1 r1.2 r2.2) _=_
 rw [e9,bnd_some,hbe]
theorem zST {a:zC} (hp:a.phase=0∨a.phase=1) {b:List Int} (h1:1≤b.length) (h2:b.length≤8192):nC a b=some (dlA a b (xT b.length),true):=by
 unfold nC
 rw [zLi hp h1 h2,bnd_some]
 simp only [bne_self_eq_false,cond_false]
 refine yD (zSC (τ:=(zC × Bool) ⊕ zC) a h1 h2 (fun a _=>.done (.inl (a,false))) (fun a=>.inr a) _ (fun s1=>rfl)) ?_
 rw [retOr_inr]
 have hw:sO (dlA a b (xT b.length)) 1=some []:=by
  unfold sO
  show bnd (rH (dl b (xT b.length)) 1) _=_
  rw [zSP h1 h2,bnd_some]
 rw [hw,bnd_some]
 rfl
theorem zPS {a:zC} (hp:a.phase=0∨a.phase=1):nC a []=some (a,false):=by
 unfold nC
 rw [zOL hp,bnd_some]
 rfl
theorem gT.few {L:List zB} {O:List Nat} {m:Nat} (h:gT L O m):O.length≤L.length:=by
 have:=h.nd.length_le_of_subset (l₂:=List.range L.length) (fun i hi=>List.mem_range.2 (h.lt hi))
 simpa using this
end Go.Proofs.YtplchdlgdjcojaaGreatDoor
end
section
namespace Go.Proofs.YtplchdlgdjcojaaGreatDoor
open Go
set_option linter.unusedVariables false
set_option linter.unusedSimpArgs false
theorem zTp {b:List Nat} (h:(rM b).2≠0):(rM b).1=noB:=by
 unfold rM at h ⊢
 split
 ·rfl
 ·rename_i h1
  rw [if_neg h1] at h
  split
  ·rfl
  ·rename_i h2
   rw [if_neg h2] at h
   split
   ·rfl
   ·rename_i h3
    rw [if_neg h3] at h
    generalize b.take (b.length - 4)=q at*
    unfold zGP at h ⊢
    split
    ·rfl
    ·rename_i h4
     rw [if_neg h4] at h
     cases hp:zBi q with
     | none=>rfl
     | some x=>
      rw [hp] at h
      obtain ⟨imgs,needs,rest⟩:=x
      simp only at h ⊢
      split
      ·rfl
      ·rename_i h5
       rw [if_neg h5] at h
       split
       ·rfl
       ·rename_i h6
        rw [if_neg h6] at h
        split
        ·rfl
        ·rename_i h7
         rw [if_neg h7] at h
         exact absurd rfl h
theorem zTz {now:List zH} (hl:now.length≤8) {B:zV} (hB:B.Images.length≤1000) (hd:pC (B.Images.map (·.Name))) (f:Int × List zH→Option (sQ (Int × List zH) (List zH)))
  (hm:∀ s1,f s1=bif decide (s1.1<(now.length:Int)) then (bnd (elt s1.2 s1.1) fun x1=>bnd (rO B x1.Name) fun r7=>bnd ((bif decide (r7≥0) then (some (decide (r7<(B.Images.length:Int)))) else (some false):Option Bool)) fun o2=>bif o2 then (bnd (elt B.Images r7) fun x2=>bnd (elt s1.2 s1.1) fun x3=>bnd (sT s1.2 s1.1 (⟨x3.Name,x2.Version⟩:zH)) fun l2=>some (.next (IntKind.wrap .i64 (s1.1+1),l2))) else (some (.next (IntKind.wrap .i64 (s1.1+1),s1.2)))) else (some (.done s1.2))):yE f (0,now)=some (wC now B.Images):=by
 refine qJ (fun i=>((i:Int),(wC now B.Images).take i++now.drop i)) now.length (fun i hi=>?_) ?_
 ·rw [hm]
  simp only
  have hXl:(wC now B.Images).length=now.length:=by simp [wC]
  have htl:((wC now B.Images).take i).length=i:=by rw [List.length_take]; omega
  have hg:((wC now B.Images).take i++now.drop i)[i]? =some now[i]:=by
   rw [List.getElem?_append_right (by omega),htl,Nat.sub_self,List.getElem?_drop,Nat.add_zero,List.getElem?_eq_getElem hi]
  have hset:∀ y,sT ((wC now B.Images).take i++now.drop i) (i:Int) y=some ((wC now B.Images).take i++y::now.drop (i+1)):=fun y=>by
   rw [nN (by simp; omega),List.set_append_right _ _ (by omega),htl,Nat.sub_self,List.drop_eq_getElem_cons hi,List.set_cons_zero]
  rw [decide_eq_true (by omega:(i:Int)<(now.length:Int)),cond_true,elt_nat,hg,bnd_some,zHN _ _ (by omega),bnd_some]
  have hX:=zGe (now:=now) B.Images hi
  have htk:(wC now B.Images).take (i+1)=(wC now B.Images).take i++ [(wC now B.Images)[i]'(by omega)]:=xC (by omega)
  cases hx:aQ B.Images now[i].Name with
  | none=>
   rw [zQr hx,decide_eq_false (by omega:¬ (-1:Int)≥0),cond_false,bnd_some,cond_false,zR hi (by omega),htk,hX,zBH,hx]
   simp only [List.append_assoc,List.cons_append,List.nil_append]
   rw [List.drop_eq_getElem_cons hi]
  | some x=>
   obtain ⟨k,hk,e1,e2,e3⟩:=zFb hd hx
   rw [e3,decide_eq_true (by omega:(k:Int)≥0),cond_true,decide_eq_true (by omega:(k:Int)<(B.Images.length:Int)),bnd_some,cond_true,yT hk,bnd_some,bnd_some,e1,hset,bnd_some,zR hi (by omega),htk,hX,zBH,hx]
   simp only [List.append_assoc,List.cons_append,List.nil_append]
 ·rw [hm]
  simp only
  rw [decide_eq_false (by omega:¬ (now.length:Int)<(now.length:Int)),cond_false,List.take_of_length_le (by simp [wC]),List.drop_length,List.append_nil]
def iEq (x y:zH):Bool:=(x.Name.toList==y.Name.toList)&&(((x.Version.Major==y.Version.Major)&&((x.Version.Minor==y.Version.Minor)&&((x.Version.Patch==y.Version.Patch)&&true)))&&true)
theorem zJS (x:zH):iEq x x=true:=by simp [iEq]
theorem zJK {d:zB} (h:Rdy d):pH d=(tZ d.Slots d.Running).Image.Version:=by
 unfold pH
 rw [(qH d).2 h.vd,cond_true]
theorem zVi {x y:zL} (h:vEq x y=true):x=y:=by
 obtain ⟨a,b,c⟩:=x
 obtain ⟨a',b',c'⟩:=y
 simp only [vEq,Bool.and_eq_true,beq_iff_eq,and_true] at h
 obtain ⟨rfl,rfl,rfl⟩:=h
 rfl
theorem zOb {a:zC} (hL:zLx a.devices) {B:zV} (hv:wJ B=0) {O:List Nat} (hO:lH (uF a B)=some O) (c k:Nat):
  (yN (stL (uL a B) O c))[k]? =if k∈O.take c then (wC (yN a.devices) B.Images)[k]? else (yN a.devices)[k]?:=by
 have h1:(yN (stL (uL a B) O c))[k]? =((stL (uL a B) O c)[k]?).map fun d=>⟨d.Name,pH d⟩:=by rw [yN,List.getElem?_map]
 have h2:(yN a.devices)[k]? =(a.devices[k]?).map fun d=>⟨d.Name,pH d⟩:=by rw [yN,List.getElem?_map]
 have h3:(wC (yN a.devices) B.Images)[k]? =(a.devices[k]?).map fun d=>⟨d.Name,vOf B.Images d.Name (pH d)⟩:=by
  rw [wC,List.getElem?_map,h2,Option.map_map]
  rfl
 rw [h1,h2,h3]
 cases hd:a.devices[k]? with
 | none=>
  have:(stL (uL a B) O c)[k]? =none:=by rw [nY,zEm,hd]; rfl
  rw [this]
  simp
 | some d=>
  have hm:=List.mem_of_getElem? hd
  have hr:=hL.1.rdy d hm
  have hnew:=zBE hr (hL.2 d hm)
  by_cases hk:k∈O.take c
  ·rw [if_pos hk]
   obtain ⟨d',e1,e2,e3,e4⟩:=zQQ hL hv hO (c:=O.length) (u:=false) (.inl ⟨rfl,rfl⟩) hd
   have e5:(stL (uL a B) O c)[k]? =some d':=by
    rw [←e1,nY,nY,List.take_length]
    simp only [hk,List.mem_of_mem_take hk]
   rw [e5,Option.map_some,Option.map_some,e2,zJK e3,e4,hnew,zBH]
   unfold zLH
   cases hx:aQ B.Images d.Name with
   | none=>rfl
   | some x=>
    simp only [Bool.not_false,Bool.true_and]
    cases hq:vEq x.Version d.Slots.e0.Image.Version with
    | false=>rfl
    | true=>rw [zVi hq]; rfl
  ·rw [if_neg hk]
   obtain ⟨d',e1,e2,e3,e4⟩:=zQQ hL hv hO (c:=0) (u:=true) (.inr ⟨rfl,rfl⟩) hd
   have e5:(stL (uL a B) O c)[k]? =some d':=by
    rw [←e1,nY,nY,List.take_zero]
    simp only [hk,List.not_mem_nil]
   rw [e5,Option.map_some,Option.map_some,e2,zJK e3,e4,hnew]
   unfold zLH
   cases hx:aQ B.Images d.Name <;> rfl
theorem zLI {old new nx:List zH} {q:Int} (hl:new.length≤8) (he:old.length=new.length) (hn:nx.length=new.length)
  (hs:∀ k (h:k<new.length),(!iEq new[k] (old[k]'(by omega)))=((k:Int)==q)) (hq:∀ k (h:k<new.length),(k:Int)=q→new[k]=nx[k]'(by omega)) (f:Int × List zH × List zH→Option (sQ (Int × List zH × List zH) (Bool ⊕ Unit)))
  (hm:∀ s3,f s3=bif decide (s3.1<(new.length:Int)) then (bnd ((bnd (elt s3.2.2 s3.1) fun x5=>bnd (elt s3.2.1 s3.1) fun x6=>bif !((!((x5.Name.toList==x6.Name.toList)&&(((x5.Version.Major==x6.Version.Major)&&((x5.Version.Minor==x6.Version.Minor)&&((x5.Version.Patch==x6.Version.Patch)&&true)))&&true)))==(s3.1==q)) then (some (s3.2.1,s3.2.2,true)) else (bif (s3.1==q) then (bnd (elt nx s3.1) fun x7=>some (s3.2.1,s3.2.2,!((x5.Name.toList==x7.Name.toList)&&(((x5.Version.Major==x7.Version.Major)&&((x5.Version.Minor==x7.Version.Minor)&&((x5.Version.Patch==x7.Version.Patch)&&true)))&&true)))) else (some (s3.2.1,s3.2.2,false))):Option (List zH × List zH × Bool))) fun o10=>bif o10.2.2 then (some (.done (.inl false))) else (some (.next (IntKind.wrap .i64 (s3.1+1),o10.1,o10.2.1)))) else (some (.done (.inr ())))):yE f (0,old,new)=some (.inr ()):=by
 refine qJ (fun i=>((i:Int),old,new)) new.length (fun i hi=>?_) ?_
 ·rw [hm]
  simp only
  rw [decide_eq_true (by omega:(i:Int)<(new.length:Int)),cond_true,yT hi,bnd_some,yT (by omega:i<old.length),bnd_some]
  have h1:=hs i hi
  unfold iEq at h1
  rw [h1]
  cases hi2:((i:Int)==q) with
  | false=>simp only [beq_self_eq_true,Bool.not_true,cond_false,bnd_some,zR hi (by omega)]
  | true=>
   have hq2:=hq i hi (eq_of_beq hi2)
   have h3:=zJS new[i]
   unfold iEq at h3
   simp only [beq_self_eq_true,Bool.not_true,cond_false,cond_true]
   rw [yT (by omega:i<nx.length),bnd_some,←hq2,h3]
   simp only [Bool.not_true,bnd_some,cond_false,zR hi (by omega)]
 ·rw [hm]
  simp only
  rw [decide_eq_false (by omega:¬ (new.length:Int)<(new.length:Int)),cond_false]
theorem zOA {L:List zB} {N:List zX} {O:List Nat} {m:Nat} (h:gT L O m) {c:Nat} (hc:c<O.length) {s:zD} {d:zA} {g:Nat} (hs:StU d s (some (zIh 2 m O)) g) (hg:g<2147483647):
  ∃ a' s' d',wO (agC L N O m c 2) true s d=some (a',s',d',(O[c]:Int),0)∧a'.devices=stL L O (c+1)∧
   (c+1<O.length∧a'=agC L N O m (c+1) 2∧StU d' s' (some (zIh 2 m O)) g∨c+1=O.length∧a'.phase=0):=by
 rw [zFy h hc]
 by_cases hl:c+1<O.length
 ·rw [if_pos hl]
  exact ⟨_,_,_,rfl,rfl, .inl ⟨hl,rfl,hs⟩⟩
 ·rw [if_neg hl]
  obtain ⟨s',d',h1,h2⟩:=zQp (L:=L) (N:=N) (O:=O) (m:=m) (c:=c+1) (ph:=2) hs (by omega)
  rw [h1,bnd_some]
  exact ⟨_,_,_,rfl,rfl, .inr ⟨by omega,rfl⟩⟩
theorem zLD {a:zC} (hL:zLx a.devices) {B:zV} (hv:wJ B=0) {O:List Nat} (hO:lH (uF a B)=some O) {N:List zX} {m:Nat} (hord:gT (uL a B) O m) (hne:O≠ [])
  (nx:List zH) (hnx:nx=wC (yN a.devices) B.Images) (f:zA × zC × zD × Int→Option (sQ (zA × zC × zD × Int) (Bool ⊕ (zA × zC × zD))))
  (hm:∀ s2,f s2=bif decide (s2.2.2.2<((iz O).length:Int)) then (bnd (elt (iz O) s2.2.2.2) fun x4=>bnd (yV s2.2.1) fun r10=>bnd (wO s2.2.1 true s2.2.2.1 s2.1) fun r11=>bnd (yV r11.1) fun r12=>bnd ((bif (r11.2.2.2.2 != 0) then (some true) else (bif (r11.2.2.2.1 != x4) then (some true) else (some ((r12.length:Int) != (r10.length:Int)))):Option Bool)) fun o7=>bif o7 then (some (.done (.inl false))) else (bnd (yE (τ:=Bool ⊕ Unit) (fun (s3:Int × List zH × List zH)=>bif decide (s3.1<(r12.length:Int)) then (bnd ((bnd (elt s3.2.2 s3.1) fun x5=>bnd (elt s3.2.1 s3.1) fun x6=>bif !((!((x5.Name.toList==x6.Name.toList)&&(((x5.Version.Major==x6.Version.Major)&&((x5.Version.Minor==x6.Version.Minor)&&((x5.Version.Patch==x6.Version.Patch)&&true)))&&true)))==(s3.1==r11.2.2.2.1)) then (some (s3.2.1,s3.2.2,true)) else (bif (s3.1==r11.2.2.2.1) then (bnd (elt nx s3.1) fun x7=>some (s3.2.1,s3.2.2,!((x5.Name.toList==x7.Name.toList)&&(((x5.Version.Major==x7.Version.Major)&&((x5.Version.Minor==x7.Version.Minor)&&((x5.Version.Patch==x7.Version.Patch)&&true)))&&true)))) else (some (s3.2.1,s3.2.2,false))):Option (List zH × List zH × Bool))) fun nx0=>bif nx0.2.2 then (some (.done (.inl false))) else (some (.next (IntKind.wrap .i64 (s3.1+1),nx0.1,nx0.2.1)))) else (some (.done (.inr ())))) (0,r10,r12)) fun o8=>zJm (fun r_=>(.done (.inl r_))) o8 fun o9=>some (.next (r11.2.2.1,r11.1,r11.2.1,IntKind.wrap .i64 (s2.2.2.2+1))))) else (some (.done (.inr (s2.1,s2.2.1,s2.2.2.1))))) {s:zD} {d:zA} (hS:StU d s (some (zIh 2 m O)) 1):
  ∃ y,yE f (d,agC (uL a B) N O m 0 2,s,0)=some (.inr y)∧y.2.1.phase=0:=by
 have h8:(uL a B).length≤8:=hord.le
 have key:=zGb (m:=f) (fun x=>∃ j:Nat,x.2.2.2=(j:Int)∧(j<O.length∧x.2.1=agC (uL a B) N O m j 2∧StU x.1 x.2.2.1 (some (zIh 2 m O)) 1∨j=O.length∧x.2.1.phase=0)) (fun x=>O.length - x.2.2.2.toNat) (fun t=>∃ y:zA × zC × zD,t= .inr y∧y.2.1.phase=0) (fun x hI=>?_)
  (d,agC (uL a B) N O m 0 2,s,0) ⟨0,rfl, .inl ⟨List.length_pos_iff.2 hne,rfl,hS⟩⟩
 ·obtain ⟨t,h1,y,rfl,h2⟩:=key
  exact ⟨y,h1,h2⟩
 obtain ⟨d,ag,s,i⟩:=x
 obtain ⟨j,hj,hI⟩:=hI
 simp only at hj hI
 subst hj
 rw [hm]
 simp only
 have hO8:=hord.len
 rcases hI with ⟨hj,rfl,hS⟩ | ⟨rfl,hp⟩
 ·refine .inl ?_
  rw [iz_len,decide_eq_true (by omega:(j:Int)<(O.length:Int)),cond_true,zAQ hj,bnd_some]
  obtain ⟨a',s',d',w1,w2,w3⟩:=zOA (N:=N) hord hj hS (by omega)
  rw [zEn (a:=agC (uL a B) N O m j 2) (by show (stL (uL a B) O j).length≤1000; rw [stL_len]; omega),bnd_some,w1,bnd_some]
  simp only
  rw [zEn (by rw [w2,stL_len]; omega),bnd_some,w2]
  have hvl:∀ c,(yN (stL (uL a B) O c)).length=(uL a B).length:=fun c=>by simp [yN,stL]
  have hlen:(((yN (stL (uL a B) O (j+1))).length:Int) != ((yN (agC (uL a B) N O m j 2).devices).length:Int))=false:=by
   show (_ != ((yN (stL (uL a B) O j)).length:Int))=false
   rw [hvl,hvl]
   simp
  simp only [bne_self_eq_false,cond_false,hlen,bnd_some]
  show ∃ s'',bnd (yE _ (0,yN (stL (uL a B) O j),yN (stL (uL a B) O (j+1)))) _=_∧_
  have hnl:nx.length=(uL a B).length:=by rw [hnx,com_len]; simp [wC,yN]
  have hin:=zBn hO
  have hmid:∀ k,k∈O.take (j+1)↔k∈O.take j∨k=O[j]:=fun k=>by rw [xC hj]; simp only [List.mem_append,List.mem_singleton]
  have hnm:¬ O[j]∈O.take j:=fun hh=>absurd ((pB hord.nd hj j).1 hh) (by omega)
  have hg:∀ k (hk:k<(yN (stL (uL a B) O (j+1))).length),some ((yN (stL (uL a B) O (j+1)))[k])=(if k∈O.take (j+1) then (wC (yN a.devices) B.Images)[k]? else (yN a.devices)[k]?)∧
    some ((yN (stL (uL a B) O j))[k]'(by rw [hvl] at hk ⊢; exact hk))=(if k∈O.take j then (wC (yN a.devices) B.Images)[k]? else (yN a.devices)[k]?):=fun k hk=>
   ⟨by rw [←zOb hL hv hO (j+1) k,List.getElem?_eq_getElem hk],by rw [←zOb hL hv hO j k,List.getElem?_eq_getElem (by rw [hvl] at hk ⊢; exact hk)]⟩
  refine ⟨(d',a',s',IntKind.wrap .i64 ((j:Int)+1)),yD (zLI (old:=yN (stL (uL a B) O j)) (new:=yN (stL (uL a B) O (j+1))) (nx:=nx) (q:=((O[j]:Nat):Int)) (by rw [hvl]; omega) (by rw [hvl,hvl]) (by rw [hvl,hnl]) (fun k hk=>?_) (fun k hk hq=>?_) _ (fun _=>rfl)) ?_,⟨j+1,zR hj (by omega),?_⟩,?_⟩
  rotate_left 2
  ·rw [zJm]
  ·rcases w3 with ⟨z1,rfl,z2⟩ | ⟨z1,z2⟩
   ·exact .inl ⟨z1,rfl,z2⟩
   ·exact .inr ⟨z1,z2⟩
  ·show O.length - (IntKind.wrap .i64 ((j:Int)+1)).toNat<O.length - ((j:Nat):Int).toNat
   rw [zR hj (by omega)]
   simp only [Int.toNat_natCast]
   omega
  ·obtain ⟨g1,g0⟩:=hg k hk
   by_cases hkj:k=O[j]
   ·subst hkj
    rw [if_pos ((hmid _).2 (.inr rfl))] at g1
    rw [if_neg hnm] at g0
    have hb:=zAg hin _ (List.getElem_mem hj)
    rw [zCh] at hb
    have hdf:=(Bool.and_eq_true_iff.1 hb).2
    unfold iF at hdf
    rw [show (uF a B).Now=yN a.devices from rfl,show (uF a B).Next=wC (yN a.devices) B.Images from rfl,←g1,←g0] at hdf
    have hdf2:(!vEq ((yN (stL (uL a B) O j))[O[j]]'(by rw [hvl] at hk ⊢; exact hk)).Version ((yN (stL (uL a B) O (j+1)))[O[j]]).Version)=true:=hdf
    rw [zEV,Bool.not_eq_true'] at hdf2
    have hI:iEq ((yN (stL (uL a B) O (j+1)))[O[j]]) ((yN (stL (uL a B) O j))[O[j]]'(by rw [hvl] at hk ⊢; exact hk))=false:=by
     unfold iEq
     show (_&&(vEq _ _&&true))=false
     rw [hdf2,Bool.false_and,Bool.and_false]
    rw [hI]
    simp
   ·have hsame:k∈O.take (j+1)↔k∈O.take j:=by rw [hmid]; simp [hkj]
    simp only [hsame] at g1
    rw [←g0] at g1
    injection g1 with g1
    rw [g1,zJS]
    have:((k:Int)==((O[j]:Nat):Int))=false:=by
     rw [beq_eq_false_iff_ne]
     intro hh
     exact hkj (Int.ofNat.inj hh)
    rw [this]
    rfl
  ·obtain ⟨g1,g0⟩:=hg k hk
   have hkj:k=O[j]:=Int.ofNat.inj hq
   rw [if_pos ((hmid k).2 (.inr hkj)),←hnx,List.getElem?_eq_getElem (by rw [hnl]; rw [hvl] at hk; exact hk)] at g1
   injection g1
 ·refine .inr ⟨.inr (d,ag,s),?_,(d,ag,s),rfl,hp⟩
  rw [iz_len,decide_eq_false (by omega:¬ (O.length:Int)<(O.length:Int)),cond_false]
theorem zJH (codes:List Int) (h:okL (inK .u8) codes):oO codes=some true:=by
 unfold oO
 obtain ⟨c,e1,hc⟩:=zOx h (most:=200) (by omega) (by omega)
 obtain ⟨c',L,N,s,bb,e2,hc',hL,h4,hN,hS,hb,hbl⟩:=zPH hc
 rw [zTy,bnd_some,Bool.not_true,cond_false,e1,bnd_some,e2,bnd_some]
 generalize zAv 2 1024=D at*
 simp only
 have hvl:(yN L).length=L.length:=by simp [yN]
 rw [zEn (a:=ag0 L N) (by show L.length≤1000; omega),bnd_some]
 by_cases h0:bb.length=0
 ·obtain rfl:bb= []:=List.length_eq_zero_iff.1 h0
  rw [iz_nil,zPS (.inl rfl),bnd_some]
  rfl
 have hrl:(iz bb).length=bb.length:=iz_len bb
 rw [zST (.inl rfl) (by omega) (by omega),bnd_some]
 simp only [Bool.not_true,cond_false]
 rw [zDF hb (by omega),bnd_some,tB (by show ([].length+(yN L).length)*40≤_; rw [hvl]; simp; omega) (by show [].length+(yN L).length≤_; rw [hvl]; simp; omega),bnd_some,List.nil_append]
 have hBk:(rM bb).1.Images.length≤8∧pC ((rM bb).1.Images.map (·.Name)):=by
  by_cases hz:(rM bb).2=0
  ·have hv:=zIR hz
   obtain ⟨v1,v2,v3,v4,v5⟩:=gN hv
   exact ⟨v2,jI hv⟩
  ·rw [zTp hz]
   exact ⟨Nat.zero_le _,List.Pairwise.nil⟩
 show bnd (yE _ (0,yN L)) _=_
 refine yD (zTz (now:=yN L) (by omega) (B:=(rM bb).1) (by omega) hBk.2 _ (fun s1=>rfl)) ?_
 show bnd (wQ (uF (ag0 L N) (rM bb).1)) _=_
 rw [zCp,bnd_some,hrl]
 have hdl:=zBJ (a:=ag0 L N) hL.1 rfl hN.ok hb (by omega) hbl s D
 rcases hdl with ⟨e,he,q1,q2⟩ | ⟨q1,q2,q3,q4,q5⟩ | ⟨q1,q2,q3,O,q4,q5,q6⟩
 ·rw [q1,bnd_some]
  simp only
  rw [xF (by simpa using he)]
  rcases q2 with q2 | ⟨q2,⟨q3,q4⟩ | ⟨q3,q4⟩⟩
  ·rw [q2,xF (by simpa using he)]
   rfl
  ·rw [q2]
   generalize (if tK (uF (ag0 L N) (rM bb).1)=0 then (match lH (uF (ag0 L N) (rM bb).1) with | some l=>(iz l,(0:Int)) | none=>([],41)) else ([],(tK (uF (ag0 L N) (rM bb).1):Int))).2=t
   rcases q4 with rfl | rfl <;> simp only [bne_self_eq_false,cond_false] <;> cases (t==_) <;> rfl
  ·rw [zCp] at q4
   injection q4 with q4
   rw [q2,q4]
   simp
 ·rw [q5,bnd_some,q1,if_pos q3,q4]
  simp only [bne_self_eq_false,cond_false,bnd_some]
  rw [xM (t:=.inr (D,(⟨true,L,N,0,zQc,0, []⟩:zC),s)) (by rfl),bnd_some,retOr_inr]
  rfl
 ·have hv:=zIR q1
  have hord:=zIr (a:=ag0 L N) hL.1 hv q3 q4
  obtain ⟨w1,w2⟩:=hord.rngJ (ph:=2) (by omega)
  obtain ⟨s',d',p1,p2⟩:=zWR hS (by omega) w1 w2
  rw [q6]
  unfold zIh at p1
  rw [p1,bnd_some,q1,if_pos q3,q4]
  simp only [if_true,bnd_some,bne_self_eq_false,cond_false]
  obtain ⟨y,w1,w2⟩:=zLD (a:=ag0 L N) hL hv q4 (N:=N) hord q5 _ rfl _ (fun _=>rfl) p2
  refine yD w1 ?_
  rw [retOr_inr,zRi,bnd_some,w2]
  rfl
end Go.Proofs.YtplchdlgdjcojaaGreatDoor
end
