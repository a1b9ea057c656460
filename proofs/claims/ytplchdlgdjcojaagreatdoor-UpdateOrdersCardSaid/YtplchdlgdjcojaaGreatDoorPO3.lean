/-
  Texts of this seat, put together: rules, walks, plain laws.
  Conditions: none.
-/
import Derived.Test.YtplchdlgdjcojaaGreatDoorPO2
section
namespace Go.Proofs.YtplchdlgdjcojaaGreatDoor
open Go
set_option linter.unusedSimpArgs false
set_option linter.unusedVariables false
theorem wE {σ τ ρ:Type} {m:σ→Option (sQ σ τ)} {s0:σ} {k:τ→Option ρ} {r:Option ρ} (S:Nat→σ) (n:Nat) (t:τ) (h0:s0=S 0) (hs:∀ i,i<n→m (S i)=some (.next (S (i+1)))) (hd:m (S n)=some (.done t)) (hk:k t=r):
  bnd (yE m s0) k=r:=by
 subst h0
 rw [qJ S n hs hd]
 exact hk
theorem nO {σ τ ρ:Type} {m:σ→Option (sQ σ τ)} {s0:σ} {k:τ→Option ρ} {r:Option ρ} (S:Nat→σ) (n:Nat) (f:Nat→Option τ) (t:τ) (h0:s0=S 0) (hs:∀ i,i<n→m (S i)=some (match f i with | some u=>.done u | none=>.next (S (i+1)))) (hd:m (S n)=some (.done t))
  (hk:k (((List.range n).findSome? f).getD t)=r):bnd (yE m s0) k=r:=by
 subst h0
 rw [zDg S n f hs hd]
 exact hk
theorem oQ {σ τ ρ:Type} {m:σ→Option (sQ σ τ)} {s0:σ} {k:τ→Option ρ} {r:Option ρ} (S:Nat→σ) (n:Nat) (p:Nat→Bool) (u t:τ) (h0:s0=S 0) (hs:∀ i,i<n→m (S i)=some (bif p i then .done u else .next (S (i+1)))) (hd:m (S n)=some (.done t))
  (hk:k (bif (List.range n).any p then u else t)=r):bnd (yE m s0) k=r:=by
 subst h0
 rw [zEM S n p hs hd]
 exact hk
theorem cG {σ τ ρ:Type} {m:σ→Option (sQ σ τ)} {s0:σ} {k:τ→Option ρ} {R:ρ→Prop} (I:σ→Prop) (μ:σ→Nat) (Q:τ→Prop) (h0:I s0) (h:∀ s,I s→(∃ s',m s=some (.next s')∧I s'∧μ s'<μ s)∨∃ t,m s=some (.done t)∧Q t)
  (hk:∀ t,Q t→∃ r,k t=some r∧R r):∃ r,bnd (yE m s0) k=some r∧R r:=by
 obtain ⟨t,h1,h2⟩:=zGb I μ Q h s0 h0
 rw [h1]
 exact hk t h2
theorem yD {α β:Type} {x:Option α} {f:α→Option β} {a:α} {r:Option β} (h:x=some a) (k:f a=r):bnd x f=r:=by rw [h]; exact k
theorem zUG {α β:Type} {x:Option α} {f:α→Option β} {P:α→Prop} {R:β→Prop} (h:∃ a,x=some a∧P a) (k:∀ a,P a→∃ r,f a=some r∧R r):∃ r,bnd x f=some r∧R r:=by
 obtain ⟨a,h1,h2⟩:=h
 rw [h1]
 exact k a h2
def iz (l:List Nat):List Int:=l.map fun (n:Nat)=>(n:Int)
def xO (l:List Nat):Prop:=∀ x∈l,x<256
def bs (s:ByteArray):List Nat:=s.data.toList.map (·.toNat)
def sb (l:List Nat):ByteArray:=⟨(l.map UInt8.ofNat).toArray⟩
@[simp] theorem iz_len (l:List Nat):(iz l).length=l.length:=by simp [iz]
@[simp] theorem iz_nil:iz []= []:=rfl
@[simp] theorem iz_cons (x:Nat) (l:List Nat):iz (x::l)=(x:Int)::iz l:=rfl
theorem kU (l m:List Nat):iz l++iz m=iz (l++m):=by simp [iz]
theorem zVR {l m:List Nat} (h:iz l=iz m):l=m:=by
 have:(iz l).map Int.toNat=(iz m).map Int.toNat:=by rw [h]
 simpa [iz,Function.comp_def] using this
theorem zUL (l:List Nat) (i:Nat):(iz l)[i]? =(l[i]?).map fun (n:Nat)=>(n:Int):=by simp [iz]
theorem zRo {b:List Int} (h:okL (inK .u8) b):∃ l,xO l∧b=iz l:=by
 have h':∀ x∈b,0≤x∧x≤255:=h.1
 refine ⟨b.map Int.toNat,fun x hx=>?_,?_⟩
 ·obtain ⟨y,hy,rfl⟩:=List.mem_map.1 hx
  have:=h' y hy
  omega
 ·unfold iz
  rw [List.map_map]
  conv=>lhs; rw [←List.map_id b]
  apply List.map_congr_left
  intro y hy
  have:=h' y hy
  simp only [id,Function.comp]
  omega
@[simp] theorem bs_len (s:ByteArray):(bs s).length=s.size:=by simp [bs]
theorem zWt (s:ByteArray):xO (bs s):=fun x hx=>by
 obtain ⟨b,_,rfl⟩:=List.mem_map.1 hx
 exact b.toNat_lt
theorem zWL {l:List Nat} (h:xO l):bs (sb l)=l:=by
 unfold bs sb
 simp only [List.map_map]
 conv=>rhs; rw [←List.map_id l]
 apply List.map_congr_left
 intro x hx
 have:=h x hx
 simp [Function.comp]
 omega
theorem zKT (s:ByteArray):sb (bs s)=s:=by
 obtain ⟨a⟩:=s
 unfold bs sb
 congr 1
 apply Array.ext'
 simp [List.map_map,Function.comp_def]
theorem zQz {s t:ByteArray} (h:bs s=bs t):s=t:=by rw [←zKT s,←zKT t,h]
@[simp] theorem sb_size (l:List Nat):(sb l).size=l.length:=by
 show (l.map UInt8.ofNat).toArray.size=_
 simp
theorem zLf (l:List Nat):zCb (iz l)=sb l:=by
 unfold zCb sb iz
 simp [List.map_map,Function.comp_def]
theorem zPp (s:ByteArray):s.toList.map (·.toNat)=bs s:=by rw [ByteArray.toList_eq]; rfl
theorem zLB (s:ByteArray):nE s=iz (bs s):=by
 unfold nE iz
 rw [←zPp,List.map_map]
 rfl
theorem xO.app {l m:List Nat} (h:xO l) (k:xO m):xO (l++m):=fun x hx=>by
 rcases List.mem_append.1 hx with hx | hx
 ·exact h x hx
 ·exact k x hx
theorem xO.nil:xO []:=fun x hx=>by cases hx
theorem xO.cons {x:Nat} {l:List Nat} (h:x<256) (k:xO l):xO (x::l):=fun y hy=>by
 rcases List.mem_cons.1 hy with rfl | hy
 ·exact h
 ·exact k y hy
theorem xO.sub {l m:List Nat} (h:xO l) (k:∀ x∈m,x∈l):xO m:=fun x hx=>h x (k x hx)
theorem xO.take {l:List Nat} (h:xO l) (n:Nat):xO (l.take n):=h.sub fun _ hx=>List.mem_of_mem_take hx
theorem xO.drop {l:List Nat} (h:xO l) (n:Nat):xO (l.drop n):=h.sub fun _ hx=>List.mem_of_mem_drop hx
theorem xO.get {l:List Nat} (h:xO l) {i:Nat} (hi:i<l.length):l[i]<256:=h _ (List.getElem_mem hi)
theorem zAQ {l:List Nat} {i:Nat} (h:i<l.length):elt (iz l) (i:Int)=some ((l[i]:Nat):Int):=by
 rw [elt_nat,zUL,List.getElem?_eq_getElem h]
 rfl
theorem zSH {s:ByteArray} {i:Nat} (h:i<s.size):eltS s (i:Int)=some (((bs s)[i]'(by simpa using h):Nat):Int):=by
 simp only [eltS,bs,List.getElem_map]
 rw [if_pos (by omega)]
 simp [h]
 rfl
theorem zTD {l:List Nat} {i:Nat} (h:i<l.length) (v:Nat):sT (iz l) (i:Int) (v:Int)=some (iz (l.set i v)):=by
 unfold sT
 rw [if_pos ⟨by omega,by simpa using h⟩]
 simp [iz,List.map_set]
theorem zIJ {l:List Nat} {a b:Nat} (h:a≤b) (hb:b≤l.length):sub (iz l) (a:Int) (b:Int)=some (iz ((l.take b).drop a)):=by
 unfold sub
 rw [if_pos ⟨by omega,by omega,by simpa using hb⟩]
 simp [iz,List.map_take,List.map_drop]
theorem zUB {l m:List Nat} {b:Nat} (h:(l.length+m.length)*b≤140737488355328) (h2:l.length+m.length≤9223372036854775807):app b (iz l) (iz m)=some (iz (l++m)):=by
 rw [tB (by simpa using h) (by simpa using h2),kU]
theorem zPB {b n:Nat} (h:n*b≤281474976710656) (h2:n≤9223372036854775807):mkS b (0:Int) (n:Int) (n:Int)=some (iz (List.replicate n 0)):=by
 unfold mkS
 rw [if_pos ⟨by omega,by omega,by omega,by omega⟩]
 simp [iz]
theorem zBZ (a b:ByteArray):(a.toList==b.toList)=decide (bs a=bs b):=by
 rw [cC]
 by_cases h:a=b
 ·subst h; simp
 ·have:bs a≠bs b:=fun e=>h (zQz e)
  simp [h,this]
theorem xF {α:Type} {c:Bool} (h:c=true) (x y:α):(bif c then x else y)=x:=by rw [h]; rfl
theorem yS {α:Type} {c:Bool} (h:c=false) (x y:α):(bif c then x else y)=y:=by rw [h]; rfl
end Go.Proofs.YtplchdlgdjcojaaGreatDoor
end
section
namespace Go.Proofs.YtplchdlgdjcojaaGreatDoor
open Go
set_option linter.unusedSimpArgs false
set_option linter.unusedVariables false
theorem tV {w a:Nat} (h:a<2 ^ w):(BitVec.ofInt w (a:Int)).toNat=a:=by
 rw [BitVec.toNat_ofInt]
 have:((a:Int) % ((2 ^ w:Nat):Int))=((a % 2 ^ w:Nat):Int):=by omega
 rw [this,Nat.mod_eq_of_lt h]
 rfl
theorem bY {n:Nat} (h:n<256):IntKind.wrap .u8 (n:Int)=(n:Int):=zAr (by omega) (by omega)
theorem yU {n:Nat} (h:n<9223372036854775808):IntKind.wrap .i64 (n:Int)=(n:Int):=yP (by omega) (by omega)
theorem zGN {n:Nat} (h:n<18446744073709551616):IntKind.wrap .u64 (n:Int)=(n:Int):=zCy (by omega) (by omega)
theorem zHC {n:Nat} (h:n<4294967296):IntKind.wrap .u32 (n:Int)=(n:Int):=zKp (by omega) (by omega)
theorem wR (n:Nat):IntKind.wrap .u8 (n:Int)=((n % 256:Nat):Int):=by rw [fY]; omega
theorem zCQ {a b:Nat} (ha:a<256) (hb:b<256):iOr .u8 (a:Int) (b:Int)=((a|||b:Nat):Int):=by
 unfold iOr
 rw [BitVec.toNat_or,tV (by exact ha),tV (by exact hb),bY (Nat.or_lt_two_pow (n:=8) ha hb)]
theorem zBU {a b:Nat} (ha:a<4611686018427387904) (hb:b<4611686018427387904):iOr .i64 (a:Int) (b:Int)=((a|||b:Nat):Int):=by
 unfold iOr
 have:=Nat.or_lt_two_pow (x:=a) (y:=b) (n:=62) ha hb
 rw [BitVec.toNat_or,tV (by show a<2 ^ 64; omega),tV (by show b<2 ^ 64; omega),yU (by omega)]
theorem zJf {a b:Nat} (ha:a<256) (hb:b<256):rA .u8 (a:Int) (b:Int)=((a&&&b:Nat):Int):=by
 unfold rA
 rw [BitVec.toNat_and,tV (by exact ha),tV (by exact hb),bY (Nat.and_lt_two_pow (n:=8) a hb)]
theorem zQO {a b:Nat} (ha:a<4611686018427387904) (hb:b<4611686018427387904):rA .i64 (a:Int) (b:Int)=((a&&&b:Nat):Int):=by
 unfold rA
 have:=Nat.and_lt_two_pow (n:=62) a (y:=b) hb
 rw [BitVec.toNat_and,tV (by show a<2 ^ 64; omega),tV (by show b<2 ^ 64; omega),yU (by omega)]
theorem bV {a s:Nat} (hs:s≤64) (h:a*2 ^ s<9223372036854775808):kL .i64 (a:Int) (s:Int)=((a*2 ^ s:Nat):Int):=by
 unfold kL
 have:min (s:Int).toNat (IntKind.bits .i64)=s:=by show min (s:Int).toNat 64=s; omega
 rw [this]
 have e:((a:Int)*2 ^ s)=((a*2 ^ s:Nat):Int):=by simp
 rw [e,yU h]
theorem zSI {a s:Nat} (hs:s≤8) (h:a*2 ^ s<256):kL .u8 (a:Int) (s:Int)=((a*2 ^ s:Nat):Int):=by
 unfold kL
 have:min (s:Int).toNat (IntKind.bits .u8)=s:=by show min (s:Int).toNat 8=s; omega
 rw [this]
 have e:((a:Int)*2 ^ s)=((a*2 ^ s:Nat):Int):=by simp
 rw [e,bY h]
theorem eH {k:IntKind} {a s:Nat} (hs:s≤k.bits):vY k (a:Int) (s:Int)=((a / 2 ^ s:Nat):Int):=by
 unfold vY
 have:min (s:Int).toNat k.bits=s:=by omega
 rw [this,Int.fdiv_eq_ediv_of_nonneg _ (by exact Int.le_of_lt (Int.pow_pos (by omega)))]
 simp
theorem zSg {a s:Nat} (hs:s≤64) (h:a*2 ^ s<9223372036854775808):zCs .i64 (a:Int) (s:Int)=some ((a*2 ^ s:Nat):Int):=by
 unfold zCs
 rw [if_neg (by omega),bV hs h]
theorem zNB {a s:Nat} (hs:s≤8) (h:a*2 ^ s<256):zCs .u8 (a:Int) (s:Int)=some ((a*2 ^ s:Nat):Int):=by
 unfold zCs
 rw [if_neg (by omega),zSI hs h]
theorem zQE {k:IntKind} {a s:Nat} (hs:s≤k.bits):zEW k (a:Int) (s:Int)=some ((a / 2 ^ s:Nat):Int):=by
 unfold zEW
 rw [if_neg (by omega),eH hs]
theorem zLR {a b s:Nat} (h:a<2 ^ s):a|||b*2 ^ s=a+b*2 ^ s:=by
 rw [Nat.or_comm,Nat.add_comm,Nat.mul_comm b]
 exact (Nat.two_pow_add_eq_or_of_lt h b).symm
theorem zTu {a b s:Nat} (h:b<2 ^ s):a*2 ^ s|||b=a*2 ^ s+b:=by
 rw [Nat.mul_comm a]
 exact (Nat.two_pow_add_eq_or_of_lt h a).symm
theorem zRy (a b:Nat):((a:Nat):Int).tdiv (b:Int)=((a / b:Nat):Int):=by
 rw [Int.tdiv_eq_ediv_of_nonneg (by omega)]
 exact (Int.natCast_ediv a b).symm
def rep (L N:Nat):List Nat:=(List.range L).map fun j=>N / 256 ^ j % 256
@[simp] theorem rep_len (L N:Nat):(rep L N).length=L:=by simp [rep]
end Go.Proofs.YtplchdlgdjcojaaGreatDoor
end
section
namespace Go.Proofs.YtplchdlgdjcojaaGreatDoor
open Go
set_option linter.unusedVariables false
set_option linter.unusedSimpArgs false
set_option maxRecDepth 10000
def jC:Nat:=1
theorem zFe:jC≤1000:=by decide
theorem zOs {l:List Int} (h:l.length≤1):wA l 0 (l.length:Int)=some l:=by
 unfold wA
 have hw:IntKind.wrap .i64 (0+1)=(1:Int):=by decide
 rw [hw,xM (t:=l) (by
  simp only
  rw [decide_eq_false (by omega:¬ ((1:Int)<(l.length:Int)))]
  rfl),bnd_some]
theorem zOV {l:List Int} (h:l.length≤1) (q:Int):vD l 0 (l.length:Int) q=some l:=by
 unfold vD
 have hw:IntKind.wrap .i64 ((l.length:Int) - 0)=(l.length:Int):=by
  rw [Int.sub_zero]; exact yU (by omega)
 rw [xM (t:=.inl l) (by
  simp only
  rw [hw,decide_eq_true (by omega:(l.length:Int)≤12),zOs h]
  simp [bN]),bnd_some]
 rfl
theorem zOw {l:List Int} (h:l.length≤1):∃ q,iD (IntKind.wrap .u64 (l.length:Int))=some q:=by
 rcases l with _ | ⟨x,_ | ⟨y,r⟩⟩
 ·exact ⟨0,by kernel_rfl⟩
 ·exact ⟨1,by kernel_rfl⟩
 ·simp at h
theorem zWj {l:List Int} (h:l.length≤jC):sK l=some (l.mergeSort fun x y=>decide (x≤y)):=by
 have h:l.length≤1:=h
 obtain ⟨q,hq⟩:=zOw h
 unfold sK
 rw [hq,bnd_some,zOV h,bnd_some]
 have hm:(l.mergeSort fun x y=>decide (x≤y))=l:=by
  rcases l with _ | ⟨x,_ | ⟨y,r⟩⟩
  ·simp
  ·simp
  ·simp at h
 rw [hm]
 simp [bN]
end Go.Proofs.YtplchdlgdjcojaaGreatDoor
end
section
namespace Go.Proofs.YtplchdlgdjcojaaGreatDoor
open Go
set_option linter.unusedSectionVars false
set_option linter.unusedVariables false
set_option maxRecDepth 10000
def zDi (m:Option (List (Int × List Int))):Option Unit:=some ()
theorem zOy {A:Option Nat} {m:Option (List (Int × List Int))} {r:Unit} (h:zDi m=some r):
  Fun Tryz.prog 260 [.map A] [.res (yO (zZ .u8) (cod eu8) A m)]
   (fun v F'=>∃ g,v= .func (.func 269) #[] #[.pointer (some ⟨g,0,none⟩)]∧F'= [.res (Box g 133 [.map A]), .res (yO (zZ .u8) (cod eu8) A m)]):=by
 refine Fun.intro Tryz.func260 rfl rfl rfl fun w R=>?_
 refine St.seq ?_
 refine St.region ?_
 refine St.box rfl rfl fun g=>?_
 refine St.p rfl rfl ?_
 refine St.done ?_
 refine St.thenN ?_
 refine St.seq ?_
 refine St.region ?_
 iterate 2 refine St.p rfl rfl ?_
 refine St.done ?_
 refine St.thenN ?_
 refine St.ret ?_
 exact St.finR Tryz.results260 (.tmp rfl .nil) rfl [.res (Box g 133 [.map A]), .res (yO (zZ .u8) (cod eu8) A m)] ⟨g,rfl,rfl⟩ (fun _ w=>w)
def gA (m:Option (List (Int × List Int))):Option (List Int):=
 if (m.getD []).length≤jC then some (((m.getD []).map (·.1)).mergeSort fun x y=>decide (x≤y)) else none
theorem zOz {l l':List Int} (h:l.Perm l'):(l.mergeSort fun x y=>decide (x≤y))=l'.mergeSort fun x y=>decide (x≤y):=by
 have ht:∀ (a b c:Int),decide (a≤b)=true→decide (b≤c)=true→decide (a≤c)=true:=fun a b c h1 h2=>by simp at*; omega
 have hT:∀ (a b:Int),(decide (a≤b)||decide (b≤a))=true:=fun a b=>by simp; omega
 refine List.Perm.eq_of_pairwise (le:=fun x y=>decide (x≤y)=true) (fun a b _ _ h1 h2=>by simp at h1 h2; omega) (List.pairwise_mergeSort ht hT _) (List.pairwise_mergeSort ht hT _) ?_
 exact (List.mergeSort_perm _ _).trans (h.trans (List.mergeSort_perm _ _).symm)
theorem zOI {l l':List Int} (h:(l.map (zZ .u8).v).Perm (l'.map (zZ .u8).v)):l.Perm l':=by
 have e:∀ l:List Int,(l.map (zZ .u8).v).filterMap (fun v=>match v with | .int _ x=>some x | _=>none)=l:=fun l=>by
  induction l with
  | nil=>rfl
  | cons x r ih=>rw [List.map_cons,List.filterMap_cons]; show x::_=_; rw [ih]
 have:=h.filterMap (fun v=>match v with | .int _ x=>some x | _=>none)
 rw [e,e] at this
 exact this
theorem zIl:Ent Tryz.prog 272:=⟨_,Tryz.func272,by kernel_rfl,by kernel_rfl⟩
theorem zLW:Ent Tryz.prog 267:=⟨_,Tryz.func267,by kernel_rfl,by kernel_rfl⟩
theorem zSm:Ent Tryz.prog 268:=⟨_,Tryz.func268,by kernel_rfl,by kernel_rfl⟩
theorem zOr {g:Nat} {A:Option Nat} {m:Option (List (Int × List Int))} (hm:(rP m).length≤1000):
  Fun Tryz.prog 267 [.func (.func 269) #[] #[.pointer (some ⟨g,0,none⟩)]] [.res (Box g 133 [.map A]), .res (yO (zZ .u8) (cod eu8) A m)]
   (fun v F'=>∃ B c ss,(ss.map (zZ .u8).v).Perm ((rP m).map (zZ .u8).v)∧v= .slice B ss.length c∧F'= [.res (Box g 133 [.map A]), .res (yO (zZ .u8) (cod eu8) A m), .res (zM eu8 5 B c ss)]):=by
 refine Fun.intro Tryz.func267 rfl rfl rfl fun w R=>?_
 refine St.seq ?_
 refine St.region ?_
 refine St.p rfl rfl ?_
 refine St.done ?_
 refine St.thenN ?_
 refine St.seq ?_
 refine St.region ?_
 refine St.p rfl rfl ?_
 refine St.call (zLp hm) zIl rfl rfl rfl (fun _ w=>w) ?_
 rintro _ _ ⟨B,c,ss,hp,rfl,rfl⟩
 refine St.p rfl rfl ?_
 refine St.done ?_
 refine St.thenN ?_
 refine St.ret ?_
 exact St.finR Tryz.results267 (.tmp rfl .nil) rfl [.res (Box g 133 [.map A]), .res (yO (zZ .u8) (cod eu8) A m), .res (zM eu8 5 B c ss)] ⟨B,c,ss,hp,rfl,rfl⟩ (fun _ w=>w)
theorem zJe {g:Nat} {A:Option Nat} {m:Option (List (Int × List Int))} {r:List Int} (h:gA m=some r):
  Fun Tryz.prog 259 [.func (.func 269) #[] #[.pointer (some ⟨g,0,none⟩)]] [.res (Box g 133 [.map A]), .res (yO (zZ .u8) (cod eu8) A m)]
   (fun v F'=>∃ B c,v= .slice B r.length c∧F'= [.res (Box g 133 [.map A]), .res (yO (zZ .u8) (cod eu8) A m), .res (zM eu8 5 B c r)]):=by
 unfold gA at h
 split at h
 ·rename_i hl
  injection h with h
  have hm0:(rP m).length≤jC:=by simpa [rP] using hl
  have hm:(rP m).length≤1000:=Nat.le_trans hm0 zFe
  refine Fun.intro Tryz.func259 rfl rfl rfl fun w R=>?_
  refine St.seq ?_
  refine St.region ?_
  refine St.p rfl rfl ?_
  refine St.done ?_
  refine St.thenN ?_
  refine St.seq ?_
  refine St.region ?_
  refine St.p rfl rfl ?_
  refine St.call (zOr hm) zLW rfl rfl rfl (fun _ w=>w) ?_
  rintro _ _ ⟨B,c,ss,hp,rfl,rfl⟩
  refine St.p rfl rfl ?_
  refine St.done ?_
  refine St.thenN ?_
  have hpk:=zOI hp
  have hlen:ss.length≤jC:=by rw [hpk.length_eq]; exact hm0
  have hr:ss.mergeSort (fun x y=>decide (x≤y))=r:=by rw [zOz hpk]; exact h
  have hs8:=zWj hlen
  rw [hr] at hs8
  have hrl:ss.length=r.length:=by rw [←hr]; exact ((List.mergeSort_perm _ _).length_eq).symm
  refine St.seq ?_
  refine St.region ?_
  refine St.p rfl rfl ?_
  refine St.call (R:=.res (Box g 133 [.map A]):: .res (yO (zZ .u8) (cod eu8) A m)::R) (gX hs8) zSm rfl rfl rfl (fun _ w=>w.front (.s (.s .z))) ?_
  rintro _ _ ⟨rfl,rfl⟩
  refine St.done ?_
  refine St.thenN ?_
  refine St.seq ?_
  refine St.region ?_
  iterate 2 refine St.p rfl rfl ?_
  refine St.done ?_
  refine St.thenN ?_
  refine St.ret ?_
  exact St.finR Tryz.results259 (.tmp rfl .nil) rfl [.res (Box g 133 [.map A]), .res (yO (zZ .u8) (cod eu8) A m), .res (zM eu8 5 B c r)] ⟨B,c,by rw [hrl],rfl⟩ (fun _ w=>(w.front (.s (.s .z))).front (.s (.s .z)))
 ·cases h
end Go.Proofs.YtplchdlgdjcojaaGreatDoor
end
section
namespace Go.Proofs.YtplchdlgdjcojaaGreatDoor
open Go
set_option linter.unusedVariables false
set_option maxHeartbeats 4000000
set_option maxRecDepth 4000
structure zA where
 size:Int
 bytes:(List Int)
 wear:(List Int)
 steps:Int
 left:Int
 torn:Int
 down:Bool
abbrev zG (x:zA) (A1:Option Addr) (c1:Nat) (A2:Option Addr) (c2:Nat):List Value:= [.int .i64 x.size, .slice A1 x.bytes.length c1, .slice A2 x.wear.length c2, .int .i64 x.steps, .int .i64 x.left, .int .u8 x.torn, .bool x.down]
structure zD where
 d:Bool
 first:Int
 active:Int
 generation:Int
 all:(Option (List (Int × (List Int))))
 tail:Int
 clean:Bool
 ended:Bool
structure vN where
 generation:Int
 all:(Option (List (Int × (List Int))))
 tail:Int
 clean:Bool
structure zE where
 Key:Int
 Value:(List Int)
 Delete:Bool
def xK:List (LC zE):= [.v (fun x=>.int .u8 x.Key) (fun _=>rfl), .s (cod eu8) (fun x=>x.Value), .v (fun x=>.bool x.Delete) (fun _=>rfl)]
abbrev aR (x:vN) (M1:Option Nat):List Value:= [.int .i64 x.generation, .map M1, .int .i64 x.tail, .bool x.clean]
abbrev zN (x:zD) (g1:Nat) (M2:Option Nat):List Value:= [.pointer (zCq x.d g1), .int .i64 x.first, .int .i64 x.active, .int .i64 x.generation, .map M2, .int .i64 x.tail, .bool x.clean, .bool x.ended]
structure zL where
 Major:Int
 Minor:Int
 Patch:Int
structure zJ where
 Name:ByteArray
 Version:zL
 Data:(List Int)
structure qN (α:Type) where
 e0:α
 e1:α
def qN.set {α:Type} (a:qN α) (q:Int) (y:α):Option (qN α):=match sT [a.e0,a.e1] q y with | some [x0,x1]=>some ⟨x0,x1⟩ | _=>none
theorem qN.set_e {α:Type} {a b:qN α} {q:Int} {y:α} (h:a.set q y=some b):sT [a.e0,a.e1] q y=some [b.e0,b.e1]:=by
 unfold qN.set at h
 split at h
 ·rename_i hs; injection h with h; subst h; exact hs
 cases h
theorem zMR {α β:Type} {l:List (α × β)} {a0 a1:α} (h:l.map (·.1)= [a0,a1]):∃ x0 x1,l= [(a0,x0),(a1,x1)]:=by
 match l,h with
 | [(_,x0),(_,x1)],h=>simp at h; obtain ⟨rfl,rfl⟩:=h; exact ⟨x0,x1,rfl⟩
structure yF where
 Image:zJ
 Sum:Int
structure zB where
 Name:ByteArray
 Slots:(qN yF)
 Active:Int
 Running:Int
 Trial:Bool
structure zGy (α:Type) where
 e0:α
 e1:α
 e2:α
def zGy.set {α:Type} (a:zGy α) (q:Int) (y:α):Option (zGy α):=match sT [a.e0,a.e1,a.e2] q y with | some [x0,x1,x2]=>some ⟨x0,x1,x2⟩ | _=>none
theorem zGy.set_e {α:Type} {a b:zGy α} {q:Int} {y:α} (h:a.set q y=some b):sT [a.e0,a.e1,a.e2] q y=some [b.e0,b.e1,b.e2]:=by
 unfold zGy.set at h
 split at h
 ·rename_i hs; injection h with h; subst h; exact hs
 cases h
abbrev xD (x:zJ) (A1:Option Addr) (c1:Nat):List Value:= [.string x.Name, .int .i64 x.Version.Major, .int .i64 x.Version.Minor, .int .i64 x.Version.Patch, .slice A1 x.Data.length c1]
abbrev zO (x:zB) (A1:Option Addr) (c1:Nat) (A2:Option Addr) (c2:Nat):List Value:= [.string x.Name, .string x.Slots.e0.Image.Name, .int .i64 x.Slots.e0.Image.Version.Major, .int .i64 x.Slots.e0.Image.Version.Minor, .int .i64 x.Slots.e0.Image.Version.Patch, .slice A1 x.Slots.e0.Image.Data.length c1, .int .u32 x.Slots.e0.Sum, .string x.Slots.e1.Image.Name, .int .i64 x.Slots.e1.Image.Version.Major, .int .i64 x.Slots.e1.Image.Version.Minor, .int .i64 x.Slots.e1.Image.Version.Patch, .slice A2 x.Slots.e1.Image.Data.length c2, .int .u32 x.Slots.e1.Sum, .int .i64 x.Active, .int .i64 x.Running, .bool x.Trial]
structure zX where
 Component:ByteArray
 From:zL
 On:ByteArray
 At:zL
structure yW where
 Size:Int
 Part:Int
 Have:(List Bool)
 Data:(List Int)
structure zC where
 store:Bool
 devices:(List zB)
 needs:(List zX)
 phase:Int
 load:yW
 before:Int
 order:(List Int)
def zF:List (LC zB):= [.v (fun x=>.string x.Name) (fun _=>rfl), .v (fun x=>.string x.Slots.e0.Image.Name) (fun _=>rfl), .v (fun x=>.int .i64 x.Slots.e0.Image.Version.Major) (fun _=>rfl), .v (fun x=>.int .i64 x.Slots.e0.Image.Version.Minor) (fun _=>rfl), .v (fun x=>.int .i64 x.Slots.e0.Image.Version.Patch) (fun _=>rfl), .s (cod eu8) (fun x=>x.Slots.e0.Image.Data), .v (fun x=>.int .u32 x.Slots.e0.Sum) (fun _=>rfl), .v (fun x=>.string x.Slots.e1.Image.Name) (fun _=>rfl), .v (fun x=>.int .i64 x.Slots.e1.Image.Version.Major) (fun _=>rfl), .v (fun x=>.int .i64 x.Slots.e1.Image.Version.Minor) (fun _=>rfl), .v (fun x=>.int .i64 x.Slots.e1.Image.Version.Patch) (fun _=>rfl), .s (cod eu8) (fun x=>x.Slots.e1.Image.Data), .v (fun x=>.int .u32 x.Slots.e1.Sum) (fun _=>rfl), .v (fun x=>.int .i64 x.Active) (fun _=>rfl), .v (fun x=>.int .i64 x.Running) (fun _=>rfl), .v (fun x=>.bool x.Trial) (fun _=>rfl)]
def zP:Enc zX:=⟨8,fun x=> [.string x.Component, .int .i64 x.From.Major, .int .i64 x.From.Minor, .int .i64 x.From.Patch, .string x.On, .int .i64 x.At.Major, .int .i64 x.At.Minor, .int .i64 x.At.Patch],fun _=>rfl,fun _=>List.all_eq_true.1 rfl⟩
def lM:List (LC yF):= [.v (fun x=>.string x.Image.Name) (fun _=>rfl), .v (fun x=>.int .i64 x.Image.Version.Major) (fun _=>rfl), .v (fun x=>.int .i64 x.Image.Version.Minor) (fun _=>rfl), .v (fun x=>.int .i64 x.Image.Version.Patch) (fun _=>rfl), .s (cod eu8) (fun x=>x.Image.Data), .v (fun x=>.int .u32 x.Sum) (fun _=>rfl)]
abbrev kR (x:yF) (A1:Option Addr) (c1:Nat):List Value:= [.string x.Image.Name, .int .i64 x.Image.Version.Major, .int .i64 x.Image.Version.Minor, .int .i64 x.Image.Version.Patch, .slice A1 x.Image.Data.length c1, .int .u32 x.Sum]
structure zH where
 Name:ByteArray
 Version:zL
def zK:Enc zH:=⟨4,fun x=> [.string x.Name, .int .i64 x.Version.Major, .int .i64 x.Version.Minor, .int .i64 x.Version.Patch],fun _=>rfl,fun _=>List.all_eq_true.1 rfl⟩
abbrev lJ (x:zH):List Value:= [.string x.Name, .int .i64 x.Version.Major, .int .i64 x.Version.Minor, .int .i64 x.Version.Patch]
abbrev zCM (x:zX):List Value:= [.string x.Component, .int .i64 x.From.Major, .int .i64 x.From.Minor, .int .i64 x.From.Patch, .string x.On, .int .i64 x.At.Major, .int .i64 x.At.Minor, .int .i64 x.At.Patch]
abbrev zI (x:zC) (g1:Nat) (A2:Option Addr) (c2:Nat) (A3:Option Addr) (c3:Nat) (A4:Option Addr) (c4:Nat) (A5:Option Addr) (c5:Nat) (A6:Option Addr) (c6:Nat):List Value:= [.pointer (zCq x.store g1), .slice A2 x.devices.length c2, .slice A3 x.needs.length c3, .int .i64 x.phase, .int .i64 x.load.Size, .int .i64 x.load.Part, .slice A4 x.load.Have.length c4, .slice A5 x.load.Data.length c5, .int .u8 x.before, .slice A6 x.order.length c6]
structure zV where
 Images:(List zJ)
 Needs:(List zX)
def yX:List (LC zJ):= [.v (fun x=>.string x.Name) (fun _=>rfl), .v (fun x=>.int .i64 x.Version.Major) (fun _=>rfl), .v (fun x=>.int .i64 x.Version.Minor) (fun _=>rfl), .v (fun x=>.int .i64 x.Version.Patch) (fun _=>rfl), .s (cod eu8) (fun x=>x.Data)]
abbrev uR (x:yW) (A1:Option Addr) (c1:Nat) (A2:Option Addr) (c2:Nat):List Value:= [.int .i64 x.Size, .int .i64 x.Part, .slice A1 x.Have.length c1, .slice A2 x.Data.length c2]
structure zS where
 b:(List Int)
 at_:Int
 bad:Bool
structure yY where
 Now:(List zH)
 Next:(List zH)
 Needs:(List zX)
structure xS where
 L:(List Int)
 At:Int
def zSR:List (LC (List Int)):= [.s (cod eu8) (fun x=>x)]
def zXe:List (LC Int):= [.v (fun x=>.int .u8 x) (fun _=>rfl)]
theorem zVX:Ent Tryz.prog 219:=en Tryz.func219 (by kernel_rfl)
noncomputable def pX (x_p0:Int) (y_p1:Int):Option (Int × Int):=
 some (IntKind.wrap .u64 ((IntKind.wrap .u64 ((IntKind.wrap .u64 ((vY .u64 x_p0 32)*(vY .u64 y_p1 32)))+(vY .u64 (IntKind.wrap .u64 ((IntKind.wrap .u64 ((vY .u64 x_p0 32)*(rA .u64 y_p1 4294967295)))+(vY .u64 (IntKind.wrap .u64 ((rA .u64 x_p0 4294967295)*(rA .u64 y_p1 4294967295))) 32))) 32)))+(vY .u64 (IntKind.wrap .u64 ((rA .u64 (IntKind.wrap .u64 ((IntKind.wrap .u64 ((vY .u64 x_p0 32)*(rA .u64 y_p1 4294967295)))+(vY .u64 (IntKind.wrap .u64 ((rA .u64 x_p0 4294967295)*(rA .u64 y_p1 4294967295))) 32))) 4294967295)+(IntKind.wrap .u64 ((rA .u64 x_p0 4294967295)*(vY .u64 y_p1 32))))) 32)),IntKind.wrap .u64 (x_p0*y_p1))
theorem zCv {x_p0 y_p1 r} (h:pX x_p0 y_p1=some r):
    Fun Tryz.prog 219 [.int .u64 x_p0, .int .u64 y_p1] [] (Val (.tuple #[.int .u64 r.1, .int .u64 r.2])):=by
 unfold pX at h
 refine Fun.intro Tryz.func219 rfl rfl rfl fun w R=>?_;refine .ab [0,1] rfl<|.ab [0,1,6] rfl<|.ab [0,1,6,7] rfl<|.ab [0,1,6,7,8] rfl<|.ab [0,1,6,7,8,9] rfl<|.ab [0,1,6,7,8,9,10] rfl<|.ab [0,1,6,7,9,11] rfl<|.ab [0,1,6,7,9,11,12] rfl<|.ab [0,1,6,7,9,12,13] rfl<|.ab [0,1,7,9,12,13] rfl<|.ab [0,1,4] rfl<|.ab [4,5] rfl ?_;cases h;exact .rv rfl rfl ⟨rfl,rfl⟩ zw
theorem zUD:Ent Tryz.prog 137:=en Tryz.func137 (by kernel_rfl)
noncomputable def mC (x_p0:Int) (y_p1:Int):Option (Int × Int):=
 bnd (pX x_p0 y_p1) fun r1=>some (r1.1,r1.2)
theorem zDX {x_p0 y_p1 r} (h:mC x_p0 y_p1=some r):
    Fun Tryz.prog 137 [.int .u64 x_p0, .int .u64 y_p1] [] (Val (.tuple #[.int .u64 r.1, .int .u64 r.2])):=by
 refine Fun.intro Tryz.func137 rfl rfl rfl fun w R=>?_;refine .ab [0,1] rfl<|.seq<|.condF rfl<|.sk<|.a 2 rfl<|.bd h fun r1 hr1 h=>.cv [] (zCv hr1) zVX rfl<|.b [8,9] rfl<|.ab [4,5] rfl ?_;cases h;exact .rv rfl rfl ⟨rfl,rfl⟩ zw
theorem zTS:Ent Tryz.prog 57:=en Tryz.func57 (by kernel_rfl)
noncomputable def vZ (x_p0:(List Int)) (count:Int):Option (List Int):=
 bif decide (count<0) then (none) else (bnd (mC (IntKind.wrap .u64 (x_p0.length:Int)) (IntKind.wrap .u64 count)) fun r1=>bnd ((bif decide (r1.1>0) then (some true) else (some (decide (r1.2>9223372036854775807))):Option Bool)) fun o1=>bif o1 then (none) else (bnd (mkS 1 0 (IntKind.wrap .i64 r1.2) (IntKind.wrap .i64 r1.2)) fun l1=>bnd (jX l1 0 l1.length x_p0) fun l2=>bnd (yE (τ:=List Int) (fun (s1:Int × List Int)=>bif decide (s1.1<(s1.2.length:Int)) then (bnd (mU s1.2.length s1.1 (s1.2.length:Int)) fun n1=>bnd (mU s1.2.length 0 s1.1) fun n2=>bnd (sub s1.2 ((Int.toNat 0:Nat):Int) (((Int.toNat 0)+n2:Nat):Int)) fun l3=>bnd (jX s1.2 (Int.toNat s1.1) n1 l3) fun l4=>some (.next (IntKind.wrap .i64 (s1.1+((min l3.length n1:Nat):Int)),l4))) else (some (.done s1.2))) (((min x_p0.length l1.length:Nat):Int),l2)) fun o2=>some o2))
theorem oM {x_p0 count A1 c1 r} (h:vZ x_p0 count=some r):
    Fun Tryz.prog 57 [.slice A1 x_p0.length c1, .int .i64 count] [.ro (SlL eu8 A1 c1 x_p0)] (fun v F=>∃ A2 c2,v= .slice A2 r.length c2∧F= [.res (zM eu8 5 A2 c2 r)]):=by
 refine Fun.intro Tryz.func57 rfl rfl rfl fun w R=>?_;refine .ab [0,1] rfl<|.seq<|.ab [0,1,10] rfl<|.cb h rfl (fun h=>?_) (fun h=>?_)
 ·refine .region ?_;cases h
 refine .sk<|.pr [0,1] rfl<|.a 5 rfl<|.bd h fun r1 hr1 h=>.cv [] (zDX hr1) zUD rfl<|.b [0,5,6] rfl<|.seq<|.seq<|.bd h fun o1 hj1 h=>.cu 0 [0,6, .s 26 (.bool o1)] [] rfl rfl ?_ ?_
 ·refine .region<|.n 3 rfl<|.gs 23 hj1 rfl (fun hj1=>?_) (fun hj1=>?_)
  ·cases hj1;exact .be rfl<|.hU rfl zw
  cases hj1;exact .be rfl<|.hU rfl zw
 refine .cb h rfl (fun h=>?_) (fun h=>?_)
 ·refine .region ?_;cases h
 refine .sk<|.pr [0,6] rfl<|.a 2 rfl<|.bd h fun l1 hl1 h=>.mkL (E:=eu8) 0 hl1 rfl rfl rfl rfl rfl rfl rfl rfl rfl rfl fun g1=>.b [0,7] rfl<|.a 2 rfl<|.bd h fun l2 hl2 h=>.copyW (E:=eu8) hl2 rfl rfl rfl rfl rfl .z (zNb (.tail _ (.head _))) rfl rfl rfl rfl ?_;refine .ss 7 (zEA hl2) ?_;refine .ss 31 (zEA hl2)<|.bf [7,8] [0] 1 rfl rfl<|.seq<|.bd h fun o2 hl1 h=>.cutK 1 (fun (e3:Option Addr × Nat)=>[.s 7 (.slice e3.1 o2.length e3.2)]) (fun e3=>[.res (zM eu8 5 e3.1 e3.2 o2)]) rfl rfl ?_ ?_
 ·refine .block<|.loopQ hl1 1 (fun (s1:Int × List Int) (e2:Option Addr × Nat)=>[.s 7 (.slice e2.1 s1.2.length e2.2), .s 8 (.int .i64 s1.1)]) (fun s1 e2=>[.res (zM eu8 5 e2.1 e2.2 s1.2)]) rfl rfl ((some ⟨g1,0,none⟩),(Int.toNat (IntKind.wrap .i64 r1.2))) (zb rfl) (fun _ w=>w) ?_;rintro s1 ⟨A2,c2⟩ st1 hm1 hd1 h1;refine .seq<|.ab [7,8,37] rfl<|.cb h1 rfl (fun h1=>?_) (fun h1=>?_)
  ·refine .sk<|.pr [7,8] rfl<|.block<|.bd h1 fun n1 hn1 h1=>.bd h1 fun n2 hn2 h1=>.bd h1 fun l3 hl3 h1=>.bd h1 fun l4 hl4 h1=>.regionX (iN [0,4,8,16,20] (.alt (iN [15] (iN [27] (iN [31,32,36] .nil))) (iN [27] (iN [15] (iN [31,32,36] .nil))))) _ mixed (by kernel_rfl) (zl [] 1 rfl)<|.shareK (Y:=?Ynd1_0) 0 (fun (e:Unit)=>[7,8, .s 38 (.int .i64 s1.1), .s 41 (.slice (zDM A2 c2 (Int.toNat s1.1) 1) n1 (c2 - (Int.toNat s1.1))), .s 44 (.slice (zDM A2 c2 (Int.toNat 0) 1) n2 (c2 - (Int.toNat 0)))]) (fun e=>[]) rfl rfl (fun hnd1_0=>?mnd1_0) ?tnd1_0
   case mnd1_0=>
    refine .yn 5 rfl<|.xalt ?_ ?_
    ·refine .xef<|.part (E:=eu8) hn1 rfl rfl (.head _) rfl rfl rfl rfl rfl rfl rfl<|.xk (zl [] 1 rfl)<|.xef<|.part (E:=eu8) hn2 rfl rfl (.head _) rfl rfl rfl rfl rfl rfl rfl<|.xk (zl [] 1 rfl) ?_;refine hnd1_0 _ _ () ?_ ?_
     ·exact ⟨rfl,rfl,rfl,rfl,rfl,trivial⟩
     exact fun _ w=>w
    refine .xef<|.part (E:=eu8) hn2 rfl rfl (.head _) rfl rfl rfl rfl rfl rfl rfl<|.xk (zl [] 1 rfl)<|.xef<|.part (E:=eu8) hn1 rfl rfl (.head _) rfl rfl rfl rfl rfl rfl rfl<|.xk (zl [] 1 rfl) ?_;refine hnd1_0 _ _ () ?_ ?_
    ·exact ⟨rfl,rfl,rfl,rfl,rfl,trivial⟩
    exact fun _ w=>w
   case tnd1_0=>
    rintro ⟨⟩;refine .nm 1 rfl<|.xef<|.copyP (E:=eu8) zBq hl4 rfl rfl rfl (zVO hl3) .z (zPt (E:=eu8) zBq hl3 (.head _)) rfl rfl rfl rfl ?_;refine .ss 7 (zEA hl4)<|.xk (zl [] 1 rfl)<|.yn 2 rfl<|.xdone<|.blkN ?_;cases h1;exact .thenN<|.ag (A2,c2) hm1 rfl zw
  refine .xq rfl ?_;cases h1;cases hd1 _ rfl
  exact .thenN<|.hE (A2,c2) rfl zw
 rintro ⟨A3,c3⟩;refine .ab [4] rfl ?_;cases h;exact .rv rfl rfl ⟨A3,c3,rfl,rfl⟩ zw
theorem zUm:Ent Tryz.prog 14:=en Tryz.func14 (by kernel_rfl)
noncomputable def mS (sectors:Int) (size:Int):Option ((Option zA) × Int):=
 bnd ((bif decide (sectors<1) then (some true) else (bif decide (sectors>16) then (some true) else (bif decide (size<64) then (some true) else (some (decide (size>1024))))):Option Bool)) fun o1=>bif o1 then (some (none,2)) else (bnd (vZ ([255]) (IntKind.wrap .i64 (sectors*size))) fun r1=>bnd (mkS 8 0 sectors sectors) fun l1=>some ((some (⟨size,r1,l1,0,0,0,false⟩:zA)),0))
theorem zDJ {sectors size r} (h:mS sectors size=some r):
    Fun Tryz.prog 14 [.int .i64 sectors, .int .i64 size] [] (zMU r.1 (fun v F=>v= .tuple #[.pointer none, .int .i64 r.2]∧F= []) (fun q_ v F=>∃ g1 A1 c1 A2 c2,v= .tuple #[.pointer (some ⟨g1,0,none⟩), .int .i64 r.2]∧F= [.res (Box g1 131 (zG q_ A1 c1 A2 c2)), .res (zM eu8 5 A1 c1 q_.bytes), .res (zM yC 3 A2 c2 q_.wear)])):=by
 refine Fun.intro Tryz.func14 rfl rfl rfl fun w R=>?_;refine .ab [0,1] rfl<|.seq<|.seq<|.bd h fun o1 hj1 h=>.cu 0 [0,1, .s 19 (.bool o1)] [] rfl rfl ?_ ?_
 ·refine .region<|.n 3 rfl<|.gs 8 hj1 rfl (fun hj1=>?_) (fun hj1=>?_)
  ·cases hj1;exact .be rfl<|.hU rfl zw
  refine .n 4 rfl<|.gs 12 hj1 rfl (fun hj1=>?_) (fun hj1=>?_)
  ·cases hj1;exact .be rfl<|.hU rfl zw
  refine .n 4 rfl<|.gs 16 hj1 rfl (fun hj1=>?_) (fun hj1=>?_)
  ·cases hj1;exact .be rfl<|.hU rfl zw
  cases hj1;exact .be rfl<|.hU rfl zw
 refine .cb h rfl (fun h=>?_) (fun h=>?_)
 ·refine .ab [4,5] rfl ?_;cases h;exact .rv rfl rfl (nU ⟨rfl,rfl⟩) zw
 refine .sk<|.pr [0,1] rfl<|.seq<|.bd h fun r1 hr1 h=>.bd h fun l1 hl1 h=>.regionX (iN [0,8,12,16,24] (.alt (iN [7] (.alt (iN [23] (iN [31,32] (iN [39,40,44] .nil))) (iN [31] (iN [23,32] (iN [39,40,44] .nil))))) (iN [31] (iN [7] (iN [23,32] (iN [39,40,44] .nil)))))) _ mixed (by kernel_rfl) zw<|.shareK (Y:=?Ynd1_0) 0 (fun (e:Option Addr × Nat × Nat × Nat)=>[.s 20 (.int .i64 size), .s 25 (.slice e.1 r1.length e.2.1), .s 27 (.slice (some ⟨e.2.2.1,0,none⟩) l1.length (Int.toNat sectors)), .s 28 (.agg #[.int .i64 size, .slice e.1 r1.length e.2.1, .slice (some ⟨e.2.2.1,0,none⟩) l1.length (Int.toNat sectors), .int .i64 0, .int .i64 0, .int .u8 0, .bool false])]) (fun e=>[.res (zM yC 3 (some ⟨e.2.2.1,0,none⟩) (Int.toNat sectors) l1), .res (zM eu8 5 e.1 e.2.1 r1), .ro (SlL eu8 (some ⟨e.2.2.2,0,none⟩) ([255]:List Int).length ([255]))]) rfl rfl (fun hnd1_0=>?mnd1_0) ?tnd1_0
 case mnd1_0=>
  refine .shareK (Y:=?Ynd1_1) 0 (fun (e:Nat × Nat)=>[.s 20 (.int .i64 size), .s 21 (.slice (some ⟨e.1,0,none⟩) 1 1), .s 24 (.int .i64 (IntKind.wrap .i64 (sectors*size))), .s 27 (.slice (some ⟨e.2,0,none⟩) l1.length (Int.toNat sectors))]) (fun e=>[.res (zM yC 3 (some ⟨e.2,0,none⟩) (Int.toNat sectors) l1), .res (Box e.1 5 [.int .u8 255])]) rfl rfl (fun hnd1_1=>?mnd1_1) ?tnd1_1
  case mnd1_1=>
   refine .yn 5 rfl<|.xalt ?_ ?_
   ·refine .xef<|.bS rfl fun g1=>.xk (zl [] 1 rfl)<|.xalt ?_ ?_
    ·refine .xef<|.asrt (fun _ w=>w.litL (E:=eu8) (e:=5) [255] rfl rfl)<|.asrt (fun _ w=>w.meltL)<|.cr 2 [0] [] 0 (oM hr1) zTS rfl fun A1 c1=>.xk (zl [] 2 rfl)<|.xef<|.mkL (E:=yC) 0 hl1 rfl rfl rfl rfl rfl rfl rfl rfl rfl rfl fun g2=>.xk (zl [] 3 rfl)<|.yn 1 rfl ?_;refine hnd1_0 _ _ (A1,c1,g2,g1) ?_ ?_
     ·exact ⟨rfl,rfl,rfl,rfl,trivial⟩
     exact fun _ w=>w
    refine .xef<|.mkL (E:=yC) 0 hl1 rfl rfl rfl rfl rfl rfl rfl rfl rfl rfl fun g2=>.xk (zl [] 2 rfl) ?_;refine hnd1_1 _ _ (g1,g2) ?_ ?_
    ·exact ⟨rfl,rfl,rfl,rfl,trivial⟩
    exact fun _ w=>w
   refine .xef<|.mkL (E:=yC) 0 hl1 rfl rfl rfl rfl rfl rfl rfl rfl rfl rfl fun g2=>.xk (zl [] 1 rfl)<|.xef<|.bS rfl fun g1=>.xk (zl [] 2 rfl) ?_;refine hnd1_1 _ _ (g1,g2) ?_ ?_
   ·exact ⟨rfl,rfl,rfl,rfl,trivial⟩
   exact fun _ w=>(w.sl [1] 0 rfl)
  case tnd1_1=>
   rintro ⟨g1,g2⟩;refine .nm 2 rfl<|.xef<|.asrt (fun _ w=>(w.sl [1] 0 rfl).litL (E:=eu8) (e:=5) [255] rfl rfl)<|.asrt (fun _ w=>w.meltL)<|.cr 3 [0] [] 0 (oM hr1) zTS rfl fun A1 c1=>.xk (zl [] 3 rfl)<|.yn 1 rfl ?_;refine hnd1_0 _ _ (A1,c1,g2,g1) ?_ ?_
   ·exact ⟨rfl,rfl,rfl,rfl,trivial⟩
   exact fun _ w=>(w.sl [2] 0 rfl)
 case tnd1_0=>
  rintro ⟨A1,c1,g2,g1⟩;refine .nm 3 rfl<|.xef<|.box rfl rfl fun g3=>.xk (zl [] 4 rfl)<|.yn 2 rfl<|.xdone<|.thenN<|.pf [4,5] [0,0,0] 1 rfl rfl ?_;cases h;exact .rv rfl rfl (zCe ⟨g3,A1,c1,(some ⟨g2,0,none⟩),(Int.toNat sectors),rfl,rfl⟩) (zl [0,1] 0 rfl)
theorem zWM:Ent Tryz.prog 58:=en Tryz.func58 (by kernel_rfl)
noncomputable def tT (d_p0:zA):Option Int:=
 some (d_p0.wear.length:Int)
theorem cO {d_p0 A1 c1 A2 c2 gb1 r} (h:tT d_p0=some r):
    Fun Tryz.prog 58 [.pointer (some ⟨gb1,0,none⟩)] [.res (Box gb1 131 (zG d_p0 A1 c1 A2 c2)), .res (zM eu8 5 A1 c1 d_p0.bytes), .res (zM yC 3 A2 c2 d_p0.wear)] (fun v F=>v= .int .i64 r∧F= [.res (Box gb1 131 (zG d_p0 A1 c1 A2 c2)), .res (zM eu8 5 A1 c1 d_p0.bytes), .res (zM yC 3 A2 c2 d_p0.wear)]):=by
 unfold tT at h
 refine Fun.intro Tryz.func58 rfl rfl rfl fun w R=>?_;refine .ab [0] rfl<|.a 3 rfl<|.lb 2 0 rfl<|.b [2] rfl ?_;cases h;exact .rv rfl rfl ⟨rfl,rfl⟩ zw
theorem zFL:Ent Tryz.prog 59:=en Tryz.func59 (by kernel_rfl)
noncomputable def yG (d_p0:zA):Option Int:=
 some d_p0.size
theorem wY {d_p0 A1 c1 A2 c2 gb1 r} (h:yG d_p0=some r):
    Fun Tryz.prog 59 [.pointer (some ⟨gb1,0,none⟩)] [.res (Box gb1 131 (zG d_p0 A1 c1 A2 c2)), .res (zM eu8 5 A1 c1 d_p0.bytes), .res (zM yC 3 A2 c2 d_p0.wear)] (fun v F=>v= .int .i64 r∧F= [.res (Box gb1 131 (zG d_p0 A1 c1 A2 c2)), .res (zM eu8 5 A1 c1 d_p0.bytes), .res (zM yC 3 A2 c2 d_p0.wear)]):=by
 unfold yG at h
 refine Fun.intro Tryz.func59 rfl rfl rfl fun w R=>?_;refine .ab [0] rfl<|.a 3 rfl<|.lb 0 0 rfl<|.b [2] rfl ?_;cases h;exact .rv rfl rfl ⟨rfl,rfl⟩ zw
theorem zQo:Ent Tryz.prog 138:=en Tryz.func138 (by kernel_rfl)
noncomputable def uN (d_p0:zA) (at_p1:Int) (n_p2:Int):Option Bool:=
 bnd ((bif decide (at_p1≥0) then (bif decide (at_p1≤(d_p0.bytes.length:Int)) then (bif decide (n_p2≥0) then (some (decide (n_p2≤(IntKind.wrap .i64 ((d_p0.bytes.length:Int) - at_p1))))) else (some false)) else (some false)) else (some false):Option Bool)) fun o1=>some o1
theorem kE {d_p0 at_p1 n_p2 A1 c1 A2 c2 gb1 r} (h:uN d_p0 at_p1 n_p2=some r):
    Fun Tryz.prog 138 [.pointer (some ⟨gb1,0,none⟩), .int .i64 at_p1, .int .i64 n_p2] [.res (Box gb1 131 (zG d_p0 A1 c1 A2 c2)), .res (zM eu8 5 A1 c1 d_p0.bytes), .res (zM yC 3 A2 c2 d_p0.wear)] (fun v F=>v= .bool r∧F= [.res (Box gb1 131 (zG d_p0 A1 c1 A2 c2)), .res (zM eu8 5 A1 c1 d_p0.bytes), .res (zM yC 3 A2 c2 d_p0.wear)]):=by
 refine Fun.intro Tryz.func138 rfl rfl rfl fun w R=>?_;refine .ab [0,1,2] rfl<|.seq<|.bd h fun o1 hj1 h=>.cu 0 [.s 6 (.bool o1)] [] rfl rfl ?_ ?_
 ·refine .region<|.n 3 rfl<|.gs 9 hj1 rfl (fun hj1=>?_) (fun hj1=>?_)
  ·refine .n 4 rfl<|.gOn rfl rfl<|.lb 1 0 rfl<|.n 4 rfl<|.gs 18 hj1 rfl (fun hj1=>?_) (fun hj1=>?_)
   ·refine .n 4 rfl<|.gs 22 hj1 rfl (fun hj1=>?_) (fun hj1=>?_)
    ·refine .n 4 rfl<|.gOn rfl rfl<|.lb 1 0 rfl ?_;cases hj1;exact .be rfl<|.hU rfl zw
    cases hj1;exact .be rfl<|.hU rfl zw
   cases hj1;exact .be rfl<|.hU rfl zw
  cases hj1;exact .be rfl<|.hU rfl zw
 cases h;exact .rv rfl rfl ⟨rfl,rfl⟩ zw
theorem bB:Ent Tryz.prog 75:=en Tryz.func75 (by kernel_rfl)
noncomputable def zQ (s_p0:(List Int)):Option (List Int):=
 bnd (app 1 ([]) s_p0) fun l1=>some l1
theorem yK {s_p0 A1 c1 r} (h:zQ s_p0=some r):
    Fun Tryz.prog 75 [.slice A1 s_p0.length c1] [.ro (SlL eu8 A1 c1 s_p0)] (fun v F=>∃ A2 c2,v= .slice A2 r.length c2∧F= [.res (zM eu8 5 A2 c2 r)]):=by
 unfold zQ at h
 refine Fun.intro Tryz.func75 rfl rfl rfl fun w R=>?_
 rcases A1 with _ | ad
 ·refine .fact (φ:=s_p0= []) (fun w hf=>(hf.ro (r:=SlL eu8 none c1 s_p0) (.head _)).2.2.1 rfl) fun hs=>?_;subst hs;have h:(some ([]):Option (List Int))=some r:=by simpa [app,bnd] using h
  refine .ab [0] rfl<|.seq<|.ab [0,4] rfl<|.condT rfl<|.abf [2] [] 1 rfl rfl<|.asrt (fun _ w=>w.nilL eu8 5) ?_;cases h;exact .rv rfl rfl ⟨none,0,rfl,rfl⟩ zw
 refine .ab [0] rfl<|.seq<|.ab [0,4] rfl<|.condF rfl<|.sk<|.pr [0] rfl<|.seq<|.region<|.bS rfl fun g1=>.p rfl rfl<|.asrt (fun _ w=>w.litL (E:=eu8) (e:=5) [] rfl rfl)<|.bd h fun l1 hl1 h=>.app (E:=eu8) hl1 rfl rfl rfl .z rfl rfl rfl rfl rfl rfl rfl rfl (iV (.tail _ (.head _))) rfl rfl fun A2 c2=>.bf [2] [0] 1 rfl rfl ?_;cases h;exact .rv rfl rfl ⟨A2,c2,rfl,rfl⟩ zw
theorem zTW:Ent Tryz.prog 60:=en Tryz.func60 (by kernel_rfl)
noncomputable def uD (d_p0:zA) (at_p1:Int) (n_p2:Int):Option (zA × (List Int) × Int):=
 bif d_p0.down then (some (d_p0, [],10)) else (bnd (uN d_p0 at_p1 n_p2) fun r1=>bif !r1 then (some (d_p0, [],2)) else (bnd (mU d_p0.bytes.length at_p1 (IntKind.wrap .i64 (at_p1+n_p2))) fun n1=>bnd (sub d_p0.bytes ((Int.toNat at_p1:Nat):Int) (((Int.toNat at_p1)+n1:Nat):Int)) fun l1=>bnd (zQ l1) fun r2=>some (d_p0,r2,0)))
theorem iM {d_p0 at_p1 n_p2 A1 c1 A2 c2 gb1 r} (h:uD d_p0 at_p1 n_p2=some r):
    Fun Tryz.prog 60 [.pointer (some ⟨gb1,0,none⟩), .int .i64 at_p1, .int .i64 n_p2] [.res (Box gb1 131 (zG d_p0 A1 c1 A2 c2)), .res (zM eu8 5 A1 c1 d_p0.bytes), .res (zM yC 3 A2 c2 d_p0.wear)] (fun v F=>∃ A3 c3 A4 c4 A5 c5,v= .tuple #[.slice A5 r.2.1.length c5, .int .i64 r.2.2]∧F= [.res (Box gb1 131 (zG r.1 A3 c3 A4 c4)), .res (zM eu8 5 A3 c3 r.1.bytes), .res (zM yC 3 A4 c4 r.1.wear), .res (zM eu8 5 A5 c5 r.2.1)]):=by
 refine Fun.intro Tryz.func60 rfl rfl rfl fun w R=>?_;refine .ab [0,1,2] rfl<|.seq<|.block<|.a 3 rfl<|.lb 6 0 rfl<|.b [0,1,2,8] rfl<|.cb h rfl (fun h=>?_) (fun h=>?_)
 ·refine .ab [6,7] rfl<|.asrt (fun _ w=>w.nilL eu8 5) ?_;cases h;exact .rv rfl rfl ⟨A1,c1,A2,c2,none,0,rfl,rfl⟩ (zl [1,1,1] 0 rfl)
 refine .a 3 rfl<|.bd h fun r1 hr1 h=>.cq 3 [] [] 0 (kE hr1) zQo rfl<|.b [0,1,2,13] rfl<|.cb h rfl (fun h=>?_) (fun h=>?_)
 ·refine .ab [6,7] rfl<|.asrt (fun _ w=>w.nilL eu8 5) ?_;cases h;exact .rv rfl rfl ⟨A1,c1,A2,c2,none,0,rfl,rfl⟩ (zl [1,1,1] 0 rfl)
 refine .skip<|.blkN<|.thenN<|.pr [0,1,2] rfl<|.a 3 rfl<|.lb 1 0 rfl<|.n 4 rfl<|.bd h fun n1 hn1 h=>.part (E:=eu8) hn1 rfl rfl (.tail _ (.head _)) rfl rfl rfl rfl rfl rfl rfl<|.bd h fun l1 hl1 h=>?_;refine .ss 27 (zSa hl1)<|.bd h fun r2 hr2 h=>.callL (yK hr2) bB rfl rfl rfl rfl (gW.part zBq hl1 (.tail _ (.head _)) gW.nil) (by rintro _ _ ⟨_,_,rfl,rfl⟩; exact ⟨zPf _ _ _ _ _,True.intro⟩) ?_;rintro _ _ ⟨A3,c3,rfl,rfl⟩;refine .nm 4 rfl<|.b [6,7] rfl ?_;cases h;exact .rv rfl rfl ⟨A1,c1,A2,c2,A3,c3,rfl,rfl⟩ (zl [1,1,1] 0 rfl)
theorem zVn:Ent Tryz.prog 220:=en Tryz.func220 (by kernel_rfl)
noncomputable def rG (b_p0:(List Int)):Option (zE × Int × Bool):=
 bif decide ((b_p0.length:Int)<2) then (some ((⟨0, [],false⟩:zE),0,false)) else (bnd (elt b_p0 1) fun x1=>bif (x1==128) then (bnd (elt b_p0 0) fun x2=>some ((⟨x2, [],true⟩:zE),2,true)) else (bnd ((bif decide (x1>28) then (some true) else (some (decide ((b_p0.length:Int)<(IntKind.wrap .i64 (2+(IntKind.wrap .i64 x1)))))):Option Bool)) fun o1=>bif o1 then (some ((⟨0, [],false⟩:zE),0,false)) else (bnd (elt b_p0 0) fun x3=>bnd (sub b_p0 2 (IntKind.wrap .i64 (2+(IntKind.wrap .i64 x1)))) fun l1=>bnd (zQ l1) fun r1=>some ((⟨x3,r1,false⟩:zE),IntKind.wrap .i64 (2+(IntKind.wrap .i64 x1)),true))))
theorem zBD {b_p0 A1 c1 r} (h:rG b_p0=some r):
    Fun Tryz.prog 220 [.slice A1 b_p0.length c1] [.ro (SlL eu8 A1 c1 b_p0)] (fun v F=>∃ A2 c2,v= .tuple #[.agg #[.int .u8 r.1.Key, .slice A2 r.1.Value.length c2, .bool r.1.Delete], .int .i64 r.2.1, .bool r.2.2]∧F= [.ro (SlL eu8 A2 c2 r.1.Value)]):=by
 refine Fun.intro Tryz.func220 rfl rfl rfl fun w R=>?_;refine .seq<|.region<|.alloc rfl rfl fun g1=>.b [0,2] rfl<|.seq<|.block<|.ab [0,2,6] rfl<|.cb h rfl (fun h=>?_) (fun h=>?_)
 ·refine .a 1 rfl<|.sb 0 0 rfl<|.bf [2,3,4] [0] 1 rfl rfl<|.asrt (fun _ w=>w.nilSl (cod eu8)) ?_;cases h;exact .rt rfl Tryz.results220 (.cell rfl (.tail _ (.head _)) rfl (.tmp rfl (.tmp rfl .nil))) rfl ⟨none,0,rfl,rfl⟩ (zk 1 2 [0] [] 0 rfl)
 refine .a 1 rfl<|.bd h fun x1 hx1 h=>.ix1 hx1 1 rfl fun b1 ob1=>.ld ob1 0 0 rfl<|.bf [0,2,11] [] 1 rfl rfl<|.cb h rfl (fun h=>?_) (fun h=>?_)
 ·refine .a 1 rfl<|.bd h fun x2 hx2 h=>.ix1 hx2 1 rfl fun b2 ob2=>.ld ob2 0 0 rfl<|.p rfl rfl<|.sb 0 1 rfl<|.bf [2,3,4] [0] 2 rfl rfl<|.asrt (fun _ w=>w.nilSl (cod eu8)) ?_;cases h;exact .rt rfl Tryz.results220 (.cell rfl (.tail _ (.head _)) rfl (.tmp rfl (.tmp rfl .nil))) rfl ⟨none,0,rfl,rfl⟩ (zk 1 2 [0] [] 0 rfl)
 refine .skip<|.blkN<|.thenN<|.pr [0,2] rfl<|.a 1 rfl<|.ix1 hx1 1 rfl fun b3 ob3=>.ld ob3 0 0 rfl<|.bf [0,2,5] [] 1 rfl rfl<|.seq<|.seq<|.bd h fun o1 hj1 h=>.cu 0 [0,2,5, .s 34 (.bool o1)] [] rfl rfl ?_ ?_
 ·refine .region<|.p rfl rfl<|.ix1 hx1 1 rfl fun b4 ob4=>.ld ob4 0 0 rfl<|.n 2 rfl<|.gs 29 hj1 rfl (fun hj1=>?_) (fun hj1=>?_)
  ·cases hj1;exact .be rfl<|.hU rfl (zl [] 1 rfl)
  cases hj1;exact .be rfl<|.hU rfl (zl [] 1 rfl)
 refine .cb h rfl (fun h=>?_) (fun h=>?_)
 ·refine .a 1 rfl<|.sb 0 0 rfl<|.bf [2,3,4] [0] 1 rfl rfl<|.asrt (fun _ w=>w.nilSl (cod eu8)) ?_;cases h;exact .rt rfl Tryz.results220 (.cell rfl (.tail _ (.head _)) rfl (.tmp rfl (.tmp rfl .nil))) rfl ⟨none,0,rfl,rfl⟩ (zk 1 2 [0] [] 0 rfl)
 refine .sk<|.pr [0,2,5] rfl<|.seq<|.regionX (iN [0,4,8,12,16,21,32,27,28,39,40,44] .nil) _ mixed (by kernel_rfl) (zl [] 1 rfl)<|.yn 1 rfl<|.bd h fun x3 hx3 h=>.openA (.tail _ (.head _)) hx3 fun b5 ob5 hqb5=>.asrt (fun _ w=>Sat.addC hqb5 (.tail _ (.head _)) hx3 w) ?_;have hc1:=fun w h=>Sat.addC hqb5 (.head _) hx3 ((fun (w:World) (h:Sat (.ro (SlL eu8 A1 c1 b_p0)::R) w)=>h) w h);refine .xfl (fun _ h=>h) (Rd.ixL (E:=eu8) hqb5 hx3 rfl rfl rfl rfl rfl rfl rfl) rfl<|.xfl hc1 (Rd.load ob5 0 rfl (.head _) rfl rfl) rfl<|.yn 2 rfl<|.bd h fun l1 hl1 h=>.openS (zm 2 rfl) hl1 fun A2 c2 hS1=>?_;have hc2:=fun w h=>Sat.addS hS1 (.tail _ (.head _)) hl1 (hc1 w h);refine .xfx (Rd.sub hS1 hl1 (zm 3 rfl) rfl rfl rfl rfl rfl rfl rfl rfl) rfl<|.yn 1 rfl<|.xef<|.bd h fun r1 hr1 h=>.cr 5 [0] [] 0 (yK hr1) bB rfl fun A3 c3=>.xk (zl [] 4 rfl)<|.yn 1 rfl<|.xef<|.sb 0 3 rfl<|.xk (zl [] 4 rfl)<|.yn 2 rfl<|.xdone<|.thenN<|.pf [2,3,4] [0,0] 3 rfl rfl<|.asrt (fun _ w=>(w.sl [1] 0 rfl).meltL) ?_;cases h;exact .rt rfl Tryz.results220 (.cell rfl (.tail _ (.head _)) rfl (.tmp rfl (.tmp rfl .nil))) rfl ⟨A3,c3,rfl,rfl⟩ (zk 1 2 [0] [] 0 rfl)
theorem zVD:Ent Tryz.prog 139:=en Tryz.func139 (by kernel_rfl)
noncomputable def qK (b_p0:(List Int)):Option ((List zE) × Int × Bool):=
 bnd ((bif ((b_p0.length:Int)==0) then (some true) else (bnd (elt b_p0 0) fun x1=>bif decide (x1<1) then (some true) else (some (decide (x1>32)))):Option Bool)) fun o1=>bif o1 then (some ([],0,false)) else (bnd (elt b_p0 0) fun x2=>bnd (yE (τ:=((List zE) × Int × Bool) ⊕ (List zE × Int)) (fun (s1:List zE × Int × Int)=>bif decide (s1.2.2<x2) then (bnd (sub b_p0 s1.2.1 (b_p0.length:Int)) fun l1=>bnd (rG l1) fun r1=>bif !r1.2.2 then (some (.done (.inl ([],0,false)))) else (bnd (app 40 s1.1 [r1.1]) fun l2=>some (.next (l2,IntKind.wrap .i64 (s1.2.1+r1.2.1),IntKind.wrap .u8 (s1.2.2+1))))) else (some (.done (.inr (s1.1,s1.2.1))))) ([],1,0)) fun o2=>vB o2 fun o3=>bnd ((bif (o3.2==(b_p0.length:Int)) then (some true) else (bnd (elt b_p0 o3.2) fun x3=>some (x3 != 0)):Option Bool)) fun o4=>bif o4 then (some ([],0,false)) else (some (o3.1,IntKind.wrap .i64 (o3.2+1),true)))
theorem zCS {b_p0 A1 c1 r} (h:qK b_p0=some r):
    Fun Tryz.prog 139 [.slice A1 b_p0.length c1] [.ro (SlL eu8 A1 c1 b_p0)] (fun v F=>∃ A2 c2,v= .tuple #[.slice A2 r.1.length c2, .int .i64 r.2.1, .bool r.2.2]∧F= [.res (xL (yL xK) 107 A2 c2 r.1)]):=by
 refine Fun.intro Tryz.func139 rfl rfl rfl fun w R=>?_;refine .ab [0] rfl<|.seq<|.seq<|.bd h fun o1 hj1 h=>.cu 0 [0, .s 24 (.bool o1)] [] rfl rfl ?_ ?_
 ·refine .region<|.n 4 rfl<|.gs 13 hj1 rfl (fun hj1=>?_) (fun hj1=>?_)
  ·cases hj1;exact .be rfl<|.hU rfl zw
  refine .n 1 rfl<|.gOn rfl rfl<|.bd hj1 fun x1 hx1 hj1=>.ix1 hx1 0 rfl fun b1 ob1=>.gOn rfl rfl<|.ld ob1 0 0 rfl<|.n 3 rfl<|.gs 19 hj1 rfl (fun hj1=>?_) (fun hj1=>?_)
  ·cases hj1;exact .be rfl<|.hU rfl (zl [] 1 rfl)
  refine .n 1 rfl<|.gOn rfl rfl<|.ix1 hx1 1 rfl fun b2 ob2=>.gOn rfl rfl<|.ld ob2 0 0 rfl ?_;cases hj1;exact .be rfl<|.hU rfl (zl [] 2 rfl)
 refine .cb h rfl (fun h=>?_) (fun h=>?_)
 ·refine .abf [2,3,4] [] 1 rfl rfl<|.asrt (fun _ w=>w.nilC (yL xK) 107) ?_;cases h;exact .rv rfl rfl ⟨none,0,rfl,rfl⟩ zw
 refine .sk<|.pr [0] rfl<|.ae rfl<|.ae rfl<|.seq<|.a 1 rfl<|.bd h fun x2 hx2 h=>.ix1 hx2 0 rfl fun b3 ob3=>.ld ob3 0 0 rfl<|.bf [0,5,6,27,28] [] 1 rfl rfl<|.asrt (fun _ w=>w.nilC (yL xK) 107)<|.bd h fun o2 hl1 h=>.cutJ 1 (fun (o3:List zE × Int) (e3:Option Addr × Nat)=>[0, .s 5 (.slice e3.1 o3.1.length e3.2), .s 6 (.int .i64 o3.2)]) (fun o3 e3=>[.res (xL (yL xK) 107 e3.1 e3.2 o3.1)]) rfl rfl (fun o3=>o2= .inr o3) ?_ ?_
 ·refine .block<|.loopQ hl1 1 (fun (s1:List zE × Int × Int) (e2:Option Addr × Nat)=>[0, .s 5 (.slice e2.1 s1.1.length e2.2), .s 6 (.int .i64 s1.2.1),27, .s 28 (.int .u8 s1.2.2)]) (fun s1 e2=>[.res (xL (yL xK) 107 e2.1 e2.2 s1.1)]) rfl rfl (none,0) (zb rfl) (fun _ w=>w) ?_;rintro s1 ⟨A2,c2⟩ st1 hm1 hd1 h1;refine .ae rfl<|.seq<|.cb h1 rfl (fun h1=>?_) (fun h1=>?_)
  ·refine .sk<|.pr [0,5,6,27,28] rfl<|.seq<|.block<|.a 2 rfl<|.bd h1 fun l1 hl1 h1=>.sub (E:=(cod eu8)) rfl rfl (.tail _ (.head _)) rfl rfl rfl rfl rfl rfl rfl hl1 fun A4 c4=>.bd h1 fun r1 hr1 h1=>.cr 4 [0] [] 0 (zBD hr1) zVn rfl fun A5 c5=>.n 4 rfl<|.alloc rfl rfl fun g1=>.sb 0 0 rfl<|.bf [0,5,6,7,8,9,27,28] [0,0] 1 rfl rfl<|.seq<|.ab [0,5,6,7,8,27,28,39] rfl<|.cb h1 rfl (fun h1=>?_) (fun h1=>?_)
   ·refine .abf [2,3,4] [] 4 rfl rfl<|.asrt (fun _ w=>w.nilC (yL xK) 107) ?_;cases h1;cases hd1 _ rfl
    have h:some _=some _:=h;cases h;exact .rv rfl rfl ⟨none,0,rfl,rfl⟩ zw
   refine .sk<|.pr [0,5,6,7,8,27,28] rfl<|.region<|.p rfl rfl<|.lb 0 0 rfl<|.bS rfl fun g2=>.bd h1 fun l2 hl2 h1=>.appC (E:=(yL xK)) hl2 rfl rfl rfl (.s (.s (.s .z))) rfl rfl rfl rfl rfl rfl rfl rfl (zFK (ls:=xK) [(r1.1,((A5,c5),()))] (.head _) rfl rfl rfl ⟨(zm 2 rfl),trivial⟩) rfl rfl fun A6 c6=>.n 5 rfl<|.done<|.blkN<|.thenN<|.pf [0,5,6,27,28] [0] 3 rfl rfl<|.region ?_;cases h1;exact .be rfl<|.ag (A6,c6) hm1 rfl zw
  refine .xq rfl ?_;cases h1;cases hd1 _ rfl
  exact .thenN<|.hereI (s1.1,s1.2.1) (A2,c2) rfl (zb rfl) zw
 rintro o3 ⟨A3,c3⟩ ho;subst ho;have h:=unR h;refine .seq<|.seq<|.bd h fun o4 hj2 h=>.cu 2 [5,6, .s 58 (.bool o4)] [0] rfl rfl ?_ ?_
 ·refine .region<|.n 5 rfl<|.gs 52 hj2 rfl (fun hj2=>?_) (fun hj2=>?_)
  ·cases hj2;exact .be rfl<|.hU rfl (zl [0] 1 rfl)
  refine .n 2 rfl<|.gOn rfl rfl<|.bd hj2 fun x3 hx3 hj2=>.ix1 hx3 1 rfl fun b4 ob4=>.gOn rfl rfl<|.ld ob4 0 0 rfl ?_;cases hj2;exact .be rfl<|.hU rfl (zl [1] 2 rfl)
 refine .cb h rfl (fun h=>?_) (fun h=>?_)
 ·refine .abf [2,3,4] [] 1 rfl rfl<|.asrt (fun _ w=>w.nilC (yL xK) 107) ?_;cases h;exact .rv rfl rfl ⟨none,0,rfl,rfl⟩ zw
 refine .sk<|.pr [5,6] rfl<|.ab [2,3,4] rfl ?_;cases h;exact .rv rfl rfl ⟨A3,c3,rfl,rfl⟩ zw
theorem zVg:Ent Tryz.prog 221:=en Tryz.func221 (by kernel_rfl)
theorem zRl:Ent Tryz.prog 140:=en Tryz.func140 (by kernel_rfl)
noncomputable def wN (v_p0:(Option (List (Int × (List Int))))) (l_p1:(List zE)):Option (Option (List (Int × (List Int)))):=
 bnd (aN v_p0) fun r1=>bnd (yE (τ:=(Option (List (Int × (List Int))))) (fun (s1:Int × (Option (List (Int × (List Int)))))=>bif decide (s1.1<(l_p1.length:Int)) then (bnd (elt l_p1 s1.1) fun x1=>bif x1.Delete then (some (.next (IntKind.wrap .i64 (s1.1+1),(s1.2.map fun l=>zDo (zZ .u8).eq l x1.Key)))) else (bnd (zQ x1.Value) fun r2=>bnd (mapM s1.2) fun m1=>some (.next (IntKind.wrap .i64 (s1.1+1),(some (nD (zZ .u8).eq m1 x1.Key r2)))))) else (some (.done s1.2))) (0,r1)) fun o1=>some o1
theorem nV {v_p0 l_p1 A1 c1 M1 r} (h:wN v_p0 l_p1=some r):
    Fun Tryz.prog 140 [.map M1, .slice A1 l_p1.length c1] [.ro (Sl (yL xK) A1 c1 l_p1), .res (yO (zZ .u8) (cod eu8) M1 v_p0)] (fun v F=>∃ M2,v= .map M2∧F= [.res (yO (zZ .u8) (cod eu8) M1 v_p0), .res (yO (zZ .u8) (cod eu8) M2 r)]):=by
 refine Fun.intro Tryz.func140 rfl rfl rfl fun w R=>?_;refine .ab [0,1] rfl<|.a 1 rfl<|.bd h fun r1 hr1 h=>.call (zJw hr1) zVg rfl rfl rfl (zl [1] 0 rfl) ?_;rintro _ _ ⟨M2,rfl,rfl⟩;refine .nm 3 rfl<|.b [1,5] rfl<|.seq<|.ab [5,10,11,12] rfl<|.bd h fun o1 hl1 h=>.cutK 3 (fun (e2:Option Nat)=>[.s 5 (.map e2)]) (fun e2=>[.res (yO (zZ .u8) (cod eu8) e2 o1),0]) rfl rfl ?_ ?_
 ·refine .block<|.loopQ hl1 2 (fun (s1:Int × (Option (List (Int × (List Int))))) (e1:Option Nat)=>[.s 5 (.map e1),10,11, .s 12 (.int .i64 s1.1)]) (fun s1 e1=>[.res (yO (zZ .u8) (cod eu8) e1 s1.2),0]) rfl rfl M2 (zb rfl) (zl [1] 0 rfl) ?_;rintro s1 M3 st1 hm1 hd1 h1;refine .ae rfl<|.seq<|.cb h1 rfl (fun h1=>?_) (fun h1=>?_)
  ·refine .sk<|.pr [5,10,11,12] rfl<|.seq<|.block<|.seq<|.region<|.bd h1 fun x1 hx1 h1=>.ix3 hx1 2 rfl fun b1 ob1 ex1=>?_;obtain ⟨⟨A2,c2⟩,_⟩:=ex1;refine .nm 5 rfl<|.ld ob1 0 0 rfl<|.alloc rfl rfl fun g1=>.sb 0 0 rfl<|.bf [5,7,10,11,12] [0] 1 rfl rfl<|.a 1 rfl<|.lb 2 0 rfl<|.b [5,7,10,11,12,17] rfl<|.cb h1 rfl (fun h1=>?_) (fun h1=>?_)
   ·refine .region<|.n 2 rfl<|.lb 0 0 rfl<|.mapDeleteVN (K:=(zZ .u8)) x1.Key rfl rfl (.s (.s .z)) rfl rfl rfl rfl rfl<|.done<|.blkN<|.thenN<|.pf [5,10,11,12] [0] 2 rfl rfl<|.region ?_;cases h1;exact .be rfl<|.ag M3 hm1 rfl zw
   refine .regionX (iN [0,4,8,12,17,23,27] .nil) _ mixed (by kernel_rfl) (zl [0,0] 1 rfl)<|.yn 2 rfl<|.yl 0 0 rfl<|.yn 1 rfl<|.yx 1 0 rfl<|.xef<|.bd h1 fun r2 hr2 h1=>.cr 6 [1] [] 0 (yK hr2) bB rfl fun A3 c3=>.xk (zl [1,1] 2 rfl)<|.xef<|.asrt (fun _ w=>w.meltL)<|.bd h1 fun m1 hm1 h1=>.mapUpdateV (K:=(zZ .u8)) hm1 x1.Key rfl rfl rfl rfl (.s (.s (.s .z))) (.head _) rfl rfl rfl rfl<|.xk (zl [] 2 rfl)<|.xdone<|.blkN<|.thenN<|.pf [5,10,11,12] [0] 3 rfl rfl<|.region ?_;cases h1;exact .be rfl<|.ag M3 hm1 rfl zw
  refine .xq rfl ?_;cases h1;cases hd1 _ rfl
  exact .thenN<|.hE M3 rfl (zl [0,0] 1 rfl)
 rintro M4;refine .ab [4] rfl ?_;cases h;exact .rv rfl rfl ⟨M4,rfl,rfl⟩ (zl [1] 0 rfl)
theorem zVQ:Ent Tryz.prog 223:=en Tryz.func223 (by kernel_rfl)
noncomputable def sL (x_p0:Int):Option Bool:=
 some (x_p0 != 255)
theorem zAU {x_p0 r} (h:sL x_p0=some r):
    Fun Tryz.prog 223 [.int .u8 x_p0] [] (Val (.bool r)):=by
 unfold sL at h
 refine Fun.intro Tryz.func223 rfl rfl rfl fun w R=>?_;refine .ab [0] rfl<|.ab [2] rfl ?_;cases h;exact .rv rfl rfl ⟨rfl,rfl⟩ zw
theorem zQI:Ent Tryz.prog 255:=en Tryz.func255 (by kernel_rfl)
noncomputable def vK (s_p0:(List Int)):Option Int:=
 bnd (yE (τ:=Int ⊕ Unit) (fun (s1:Int)=>bif decide (s1<(s_p0.length:Int)) then (bnd (elt s_p0 s1) fun x1=>bnd (sL x1) fun r1=>bif r1 then (some (.done (.inl s1))) else (some (.next (IntKind.wrap .i64 (s1+1))))) else (some (.done (.inr ())))) 0) fun o1=>vB o1 fun o2=>some (-1)
theorem mH {s_p0 A1 c1 r} (h:vK s_p0=some r):
    Fun Tryz.prog 255 [.slice A1 s_p0.length c1, .func (.func 223) #[] #[]] [.ro (SlL eu8 A1 c1 s_p0)] (Val (.int .i64 r)):=by
 refine Fun.intro Tryz.func255 rfl rfl rfl fun w R=>?_;refine .ab [0,1] rfl<|.seq<|.ab [0,1,7,8] rfl<|.bd h fun o1 hl1 h=>.cutJ 1 (fun (o2:Unit) (e2:Unit)=>[]) (fun o2 e2=>[]) rfl rfl (fun o2=>o1= .inr o2) ?_ ?_
 ·refine .block<|.loopQ hl1 0 (fun (s1:Int) (e1:Unit)=>[0,1,7, .s 8 (.int .i64 s1)]) (fun s1 e1=>[]) rfl rfl () (zb rfl) (fun _ w=>w) ?_;rintro s1 e1 st1 hm1 hd1 h1;refine .ae rfl<|.seq<|.cb h1 rfl (fun h1=>?_) (fun h1=>?_)
  ·refine .sk<|.pr [0,1,7,8] rfl<|.seq<|.block<|.ab [0,1,5,7,8] rfl<|.a 3 rfl<|.bd h1 fun x1 hx1 h1=>.ix1 hx1 0 rfl fun b1 ob1=>.ld ob1 0 0 rfl<|.bd h1 fun r1 hr1 h1=>.cv [] (zAU hr1) zVQ rfl<|.bf [0,1,5,7,8,16] [] 1 rfl rfl<|.cb h1 rfl (fun h1=>?_) (fun h1=>?_)
   ·refine .abf [4] [] 1 rfl rfl ?_;cases h1;cases hd1 _ rfl
    have h:some _=some _:=h;cases h;exact .rv rfl rfl ⟨rfl,rfl⟩ zw
   refine .skip<|.blkN<|.thenN<|.pr [0,1,7,8] rfl<|.region ?_;cases h1;exact .be rfl<|.ag () hm1 rfl zw
  refine .xq rfl ?_;cases h1;cases hd1 _ rfl
  exact .thenN<|.hereI () () rfl trivial (zl [] 1 rfl)
 rintro o2 e2 ho;subst ho;have h:=unR h;refine .ae rfl ?_;cases h;exact .rv rfl rfl ⟨rfl,rfl⟩ zw
theorem zRW:Ent Tryz.prog 222:=en Tryz.func222 (by kernel_rfl)
noncomputable def wT (s_p0:(List Int)):Option Bool:=
 bnd (vK s_p0) fun r1=>some (decide (r1≥0))
theorem oR {s_p0 A1 c1 r} (h:wT s_p0=some r):
    Fun Tryz.prog 222 [.slice A1 s_p0.length c1, .func (.func 223) #[] #[]] [.ro (SlL eu8 A1 c1 s_p0)] (Val (.bool r)):=by
 refine Fun.intro Tryz.func222 rfl rfl rfl fun w R=>?_;refine .ab [0,1] rfl<|.a 2 rfl<|.bd h fun r1 hr1 h=>.cv [0] (mH hr1) zQI rfl<|.bf [4] [] 1 rfl rfl ?_;cases h;exact .rv rfl rfl ⟨rfl,rfl⟩ zw
theorem zQU:Ent Tryz.prog 141:=en Tryz.func141 (by kernel_rfl)
noncomputable def qI (b_p0:(List Int)):Option Bool:=
 bnd (wT b_p0) fun r1=>some (!r1)
theorem eT {b_p0 A1 c1 r} (h:qI b_p0=some r):
    Fun Tryz.prog 141 [.slice A1 b_p0.length c1] [.ro (SlL eu8 A1 c1 b_p0)] (Val (.bool r)):=by
 refine Fun.intro Tryz.func141 rfl rfl rfl fun w R=>?_;refine .ab [0] rfl<|.a 1 rfl<|.bd h fun r1 hr1 h=>.cv [0] (oR hr1) zRW rfl<|.bf [2] [] 1 rfl rfl ?_;cases h;exact .rv rfl rfl ⟨rfl,rfl⟩ zw
theorem zWB:Ent Tryz.prog 61:=en Tryz.func61 (by kernel_rfl)
noncomputable def sY (b_p0:(List Int)):Option (vN × Bool):=
 bnd (elt b_p0 0) fun x1=>bnd (elt b_p0 1) fun x2=>bnd (elt b_p0 2) fun x3=>bnd (elt b_p0 3) fun x4=>bnd ((bnd (elt b_p0 4) fun x5=>bif (x5 != 0) then (some true) else (bif decide ((iOr .i64 (iOr .i64 (iOr .i64 (IntKind.wrap .i64 x1) (kL .i64 (IntKind.wrap .i64 x2) 8)) (kL .i64 (IntKind.wrap .i64 x3) 16)) (kL .i64 (IntKind.wrap .i64 x4) 24))<1) then (some true) else (some (decide ((iOr .i64 (iOr .i64 (iOr .i64 (IntKind.wrap .i64 x1) (kL .i64 (IntKind.wrap .i64 x2) 8)) (kL .i64 (IntKind.wrap .i64 x3) 16)) (kL .i64 (IntKind.wrap .i64 x4) 24))>2147483648)))):Option Bool)) fun o1=>bif o1 then (some ((⟨0,none,0,false⟩:vN),false)) else (bnd (yE (τ:=vN) (fun (s1:vN)=>bnd (sub b_p0 s1.tail (b_p0.length:Int)) fun l1=>bnd (qK l1) fun r1=>bif !r1.2.2 then (some (.done s1)) else (bnd (wN s1.all r1.1) fun r2=>bif decide ((((r2.getD []).length:Nat):Int)>32) then (some (.done s1)) else (some (.next (⟨s1.generation,r2,IntKind.wrap .i64 (s1.tail+r1.2.1),s1.clean⟩:vN))))) (⟨iOr .i64 (iOr .i64 (iOr .i64 (IntKind.wrap .i64 x1) (kL .i64 (IntKind.wrap .i64 x2) 8)) (kL .i64 (IntKind.wrap .i64 x3) 16)) (kL .i64 (IntKind.wrap .i64 x4) 24),(some []),5,false⟩:vN)) fun o2=>bnd (sub b_p0 o2.tail (b_p0.length:Int)) fun l2=>bnd (qI l2) fun r3=>some ((⟨o2.generation,o2.all,o2.tail,r3⟩:vN),true))
theorem zDQ {b_p0 A1 c1 r} (h:sY b_p0=some r):
    Fun Tryz.prog 61 [.slice A1 b_p0.length c1] [.ro (SlL eu8 A1 c1 b_p0)] (fun v F=>∃ M1,v= .tuple #[.agg (aR r.1 M1).toArray, .bool r.2]∧F= [.res (yO (zZ .u8) (cod eu8) M1 r.1.all)]):=by
 refine Fun.intro Tryz.func61 rfl rfl rfl fun w R=>?_;refine .seq<|.region<|.alloc rfl rfl fun g1=>.b [0,2] rfl<|.seq<|.regionF mixed (by kernel_rfl)<|.p rfl rfl<|.bd h fun x1 hx1 h=>.ix1 hx1 1 rfl fun b1 ob1=>.ld ob1 0 0 rfl<|.n 2 rfl<|.bd h fun x2 hx2 h=>.ix1 hx2 2 rfl fun b2 ob2=>.ld ob2 0 0 rfl<|.n 4 rfl<|.bd h fun x3 hx3 h=>.ix1 hx3 3 rfl fun b3 ob3=>.ld ob3 0 0 rfl<|.n 4 rfl<|.bd h fun x4 hx4 h=>.ix1 hx4 4 rfl fun b4 ob4=>.ld ob4 0 0 rfl<|.beq rfl<|.pf [0,2,4] [] 4 rfl rfl<|.seq<|.seq<|.bd h fun o1 hj1 h=>.cu 0 [0,2,4, .s 43 (.bool o1)] [] rfl rfl ?_ ?_
 ·refine .region<|.p rfl rfl<|.bd hj1 fun x5 hx5 hj1=>.ix1 hx5 1 rfl fun b5 ob5=>.ld ob5 0 0 rfl<|.n 2 rfl<|.gs 36 hj1 rfl (fun hj1=>?_) (fun hj1=>?_)
  ·cases hj1;exact .be rfl<|.hU rfl (zl [] 1 rfl)
  refine .n 4 rfl<|.gs 40 hj1 rfl (fun hj1=>?_) (fun hj1=>?_)
  ·cases hj1;exact .be rfl<|.hU rfl (zl [] 1 rfl)
  cases hj1;exact .be rfl<|.hU rfl (zl [] 1 rfl)
 refine .cb h rfl (fun h=>?_) (fun h=>?_)
 ·refine .a 1 rfl<|.sb 0 0 rfl<|.bf [2,3] [0] 1 rfl rfl<|.asrt (fun _ w=>w.nilV (zZ .u8) (cod eu8)) ?_;cases h;exact .rt rfl Tryz.results61 (.cell rfl (.tail _ (.head _)) rfl (.tmp rfl .nil)) rfl ⟨none,rfl,rfl⟩ (zl [0] 1 rfl)
 refine .sk<|.pr [0,2,4] rfl<|.a 1 rfl<|.makeMapV (K:=(zZ .u8)) (E:=(cod eu8)) rfl fun g2=>.p rfl rfl<|.alloc rfl rfl fun g3=>.sb 0 0 rfl<|.b [0,2,5] rfl<|.seq<|.bd h fun o2 hl1 h=>.cutK 2 (fun (e3:Option Nat)=>[0,2,5]) (fun e3=>[.res (yO (zZ .u8) (cod eu8) e3 o2.all), .res (Box g3 138 (aR o2 e3))]) rfl rfl ?_ ?_
 ·refine .block<|.loopQ hl1 2 (fun (s1:vN) (e2:Option Nat)=>[0,2,5]) (fun s1 e2=>[.res (yO (zZ .u8) (cod eu8) e2 s1.all), .res (Box g3 138 (aR s1 e2))]) rfl rfl (some g2) (zb rfl) (zl [1] 0 rfl) ?_;rintro s1 M1 st1 hm1 hd1 h1;refine .block<|.a 2 rfl<|.lb 2 1 rfl<|.bd h1 fun l1 hl1 h1=>.sub (E:=(cod eu8)) rfl rfl (zm 3 rfl) rfl rfl rfl rfl rfl rfl rfl hl1 fun A2 c2=>.bd h1 fun r1 hr1 h1=>.cr 6 [0] [] 0 (zCS hr1) zVD rfl fun A3 c3=>.bf [0,2,5,6,7,8] [0] 1 rfl rfl<|.seq<|.ab [0,2,5,6,7,58] rfl<|.cb h1 rfl (fun h1=>?_) (fun h1=>?_)
  ·refine .xq rfl ?_;cases h1;cases hd1 _ rfl
   exact .thenN<|.hE M1 rfl (zl [] 1 rfl)
  refine .sk<|.pr [0,2,5,6,7] rfl<|.a 1 rfl<|.lb 1 2 rfl<|.p rfl rfl<|.asrt (fun _ w=>w.meltC)<|.bd h1 fun r2 hr2 h1=>.call (nV hr2) zRl rfl rfl rfl (zd [1] [1] 0 rfl) ?_;rintro _ _ ⟨M3,rfl,rfl⟩;refine .nm 6 rfl<|.bf [0,2,5,7,9] [0,0] 1 rfl rfl<|.seq<|.a 1 rfl<|.mapLenV (K:=(zZ .u8)) (E:=(cod eu8)) rfl rfl (.tail _ (.head _)) rfl rfl rfl<|.b [0,2,5,7,9,65] rfl<|.cb h1 rfl (fun h1=>?_) (fun h1=>?_)
  ·refine .xq rfl ?_;cases h1;cases hd1 _ rfl
   exact .thenN<|.hE M1 rfl (zl [0] 1 rfl)
  refine .sk<|.pr [0,2,5,7,9] rfl<|.region<|.n 2 rfl<|.lb 2 2 rfl<|.n 3 rfl<|.sb 1 2 rfl<|.p rfl rfl<|.sb 2 0 rfl<|.done<|.blkN ?_;cases h1;exact .thenN<|.ag M3 hm1 rfl (zl [2,0] 1 rfl)
 rintro M2;refine .a 2 rfl<|.lb 2 1 rfl<|.bd h fun l2 hl2 h=>.sub (E:=(cod eu8)) rfl rfl (zm 3 rfl) rfl rfl rfl rfl rfl rfl rfl hl2 fun A4 c4=>.bd h fun r3 hr3 h=>.cv [0] (eT hr3) zQU rfl<|.p rfl rfl<|.sb 3 2 rfl<|.bf [2,5] [0,1,1] 2 rfl rfl<|.seq<|.region<|.lb 0 0 rfl<|.sb 0 2 rfl<|.bf [2,3] [0] 1 rfl rfl ?_;cases h;exact .rt rfl Tryz.results61 (.cell rfl (.head _) rfl (.tmp rfl .nil)) rfl ⟨M2,rfl,rfl⟩ (zl [] 1 rfl)
theorem zUh:Ent Tryz.prog 15:=en Tryz.func15 (by kernel_rfl)
noncomputable def wM (d_p0:zA) (first:Int):Option (zA × (Option zD) × Int):=
 bnd ((bif decide (first<0) then (some true) else (bnd (tT d_p0) fun r1=>some (decide (first>(IntKind.wrap .i64 (r1 - 2))))):Option Bool)) fun o1=>bif o1 then (some (d_p0,none,2)) else (bnd (yG d_p0) fun r2=>bif decide (r2<1024) then (some (d_p0,none,3)) else (bnd (yE (τ:=(zA × (Option zD) × Int) ⊕ (zD × zA)) (fun (s1:zD × zA × Int)=>bif decide (s1.2.2<2) then (bnd (yG s1.2.1) fun r3=>bnd (yG s1.2.1) fun r4=>bnd (uD s1.2.1 (IntKind.wrap .i64 ((IntKind.wrap .i64 (first+s1.2.2))*r3)) r4) fun r5=>bif (r5.2.2 != 0) then (some (.done (.inl (r5.1,none,r5.2.2)))) else (bnd (sY r5.2.1) fun r6=>bnd ((bif r6.2 then (some (decide (r6.1.generation>s1.1.generation))) else (some false):Option Bool)) fun o4=>bif o4 then (some (.next ((⟨s1.1.d,s1.1.first,s1.2.2,r6.1.generation,r6.1.all,r6.1.tail,r6.1.clean,s1.1.ended⟩:zD),r5.1,IntKind.wrap .i64 (s1.2.2+1)))) else (some (.next (s1.1,r5.1,IntKind.wrap .i64 (s1.2.2+1)))))) else (some (.done (.inr (s1.1,s1.2.1))))) ((⟨true,first,(-1),0,(some []),0,false,false⟩:zD),d_p0,0)) fun o2=>vB o2 fun o3=>some (o3.2,(some o3.1),0)))
theorem bA {d_p0 first A1 c1 A2 c2 gb1 r} (h:wM d_p0 first=some r):
    Fun Tryz.prog 15 [.pointer (some ⟨gb1,0,none⟩), .int .i64 first] [.res (Box gb1 131 (zG d_p0 A1 c1 A2 c2)), .res (zM eu8 5 A1 c1 d_p0.bytes), .res (zM yC 3 A2 c2 d_p0.wear)] (zMU r.2.1 (fun v F=>∃ A3 c3 A4 c4,v= .tuple #[.pointer none, .int .i64 r.2.2]∧F= [.res (Box gb1 131 (zG r.1 A3 c3 A4 c4)), .res (zM eu8 5 A3 c3 r.1.bytes), .res (zM yC 3 A4 c4 r.1.wear)]) (fun q_ v F=>∃ g1 A3 c3 A4 c4 M1,v= .tuple #[.pointer (some ⟨g1,0,none⟩), .int .i64 r.2.2]∧F= [.res (Box gb1 131 (zG r.1 A3 c3 A4 c4)), .res (zM eu8 5 A3 c3 r.1.bytes), .res (zM yC 3 A4 c4 r.1.wear), .res (Box g1 135 (zN q_ gb1 M1)), .res (yO (zZ .u8) (cod eu8) M1 q_.all)])):=by
 refine Fun.intro Tryz.func15 rfl rfl rfl fun w R=>?_;refine .ab [0,1] rfl<|.seq<|.block<|.seq<|.bd h fun o1 hj1 h=>.cu 0 [0,1, .s 12 (.bool o1)] [] rfl rfl ?_ ?_
 ·refine .region<|.n 3 rfl<|.gs 15 hj1 rfl (fun hj1=>?_) (fun hj1=>?_)
  ·cases hj1;exact .be rfl<|.hU rfl zw
  refine .n 2 rfl<|.gOn rfl rfl<|.bd hj1 fun r1 hr1 hj1=>.cq 3 [] [] 0 (cO hr1) zWM rfl ?_;cases hj1;exact .be rfl<|.hU rfl zw
 refine .cb h rfl (fun h=>?_) (fun h=>?_)
 ·refine .ab [4,5] rfl ?_;cases h;exact .rv rfl rfl (nU ⟨A1,c1,A2,c2,rfl,rfl⟩) zw
 refine .a 1 rfl<|.bd h fun r2 hr2 h=>.cq 3 [] [] 0 (wY hr2) zFL rfl<|.b [0,1,22] rfl<|.cb h rfl (fun h=>?_) (fun h=>?_)
 ·refine .ab [4,5] rfl ?_;cases h;exact .rv rfl rfl (nU ⟨A1,c1,A2,c2,rfl,rfl⟩) zw
 refine .skip<|.blkN<|.thenN<|.pr [0,1] rfl<|.a 2 rfl<|.makeMapV (K:=(zZ .u8)) (E:=(cod eu8)) rfl fun g1=>.p rfl rfl<|.box rfl rfl fun g2=>.b [0,1,6] rfl<|.seq<|.ae rfl<|.bd h fun o2 hl1 h=>.cutJ 5 (fun (o3:zD × zA) (e3:Option Nat × Option Addr × Nat × Option Addr × Nat)=>[6]) (fun o3 e3=>[.res (zM yC 3 e3.2.2.2.1 e3.2.2.2.2 o3.2.wear), .res (zM eu8 5 e3.2.1 e3.2.2.1 o3.2.bytes), .res (yO (zZ .u8) (cod eu8) e3.1 o3.1.all), .res (Box g2 135 (zN o3.1 gb1 e3.1)), .res (Box gb1 131 (zG o3.2 e3.2.1 e3.2.2.1 e3.2.2.2.1 e3.2.2.2.2))]) rfl rfl (fun o3=>o2= .inr o3) ?_ ?_
 ·refine .block<|.loopQ hl1 5 (fun (s1:zD × zA × Int) (e2:Option Nat × Option Addr × Nat × Option Addr × Nat)=>[0,1,6, .s 31 (.int .i64 s1.2.2)]) (fun s1 e2=>[.res (zM yC 3 e2.2.2.2.1 e2.2.2.2.2 s1.2.1.wear), .res (zM eu8 5 e2.2.1 e2.2.2.1 s1.2.1.bytes), .res (yO (zZ .u8) (cod eu8) e2.1 s1.1.all), .res (Box g2 135 (zN s1.1 gb1 e2.1)), .res (Box gb1 131 (zG s1.2.1 e2.2.1 e2.2.2.1 e2.2.2.2.1 e2.2.2.2.2))]) rfl rfl ((some g1),A1,c1,A2,c2) (zb rfl) (zl [4,3,1] 0 rfl) ?_;rintro s1 ⟨M1,A3,c3,A4,c4⟩ st1 hm1 hd1 h1;refine .ae rfl<|.seq<|.cb h1 rfl (fun h1=>?_) (fun h1=>?_)
  ·refine .sk<|.pr [0,1,6,31] rfl<|.seq<|.block<|.ab [0,1,6,7,31] rfl<|.a 5 rfl<|.bd h1 fun r3 hr3 h1=>.cq 5 [] [4,1] 0 (wY hr3) zFL rfl<|.n 2 rfl<|.bd h1 fun r4 hr4 h1=>.cq 5 [] [] 0 (wY hr4) zFL rfl<|.bd h1 fun r5 hr5 h1=>.call (iM hr5) zTW rfl rfl rfl (fun _ w=>w) ?_;rintro _ _ ⟨A7,c7,A8,c8,A9,c9,rfl,rfl⟩;refine .nm 6 rfl<|.b [0,1,6,7,8,9,31] rfl<|.seq<|.ab [0,1,6,7,8,9,31,48] rfl<|.cb h1 rfl (fun h1=>?_) (fun h1=>?_)
   ·refine .abf [4,5] [0,0,0] 3 rfl rfl ?_;cases h1;cases hd1 _ rfl
    have h:some _=some _:=h;cases h;exact .rv rfl rfl (nU ⟨A7,c7,A8,c8,rfl,rfl⟩) zw
   refine .sk<|.pr [0,1,6,7,8,31] rfl<|.a 1 rfl<|.asrt (fun _ w=>(w.sl [3] 0 rfl).meltL)<|.bd h1 fun r6 hr6 h1=>.call (zDQ hr6) zWB rfl rfl rfl (zd [0] [] 0 rfl) ?_;rintro _ _ ⟨M3,rfl,rfl⟩;refine .nm 7 rfl<|.n 3 rfl<|.alloc rfl rfl fun g3=>.sb 0 0 rfl<|.bf [0,1,6,7,10,11,31] [0,0] 1 rfl rfl<|.seq<|.bd h1 fun o4 hj2 h1=>.cu 0 [0,1,6,7,10,31, .s 64 (.bool o4)] [] rfl rfl ?_ ?_
   ·refine .regionF mixed (by kernel_rfl)<|.n 2 rfl<|.gs 56 hj2 rfl (fun hj2=>?_) (fun hj2=>?_)
    ·refine .n 1 rfl<|.gOn rfl rfl<|.lb 0 0 rfl<|.n 3 rfl<|.gOn rfl rfl<|.lb 3 6 rfl ?_;cases hj2;exact .beq rfl<|.hU rfl zw
    cases hj2;exact .beq rfl<|.hU rfl zw
   refine .cb h1 rfl (fun h1=>?_) (fun h1=>?_)
   ·refine .regionX (iN [0,4,8,12,16,20,24,28,32,36,40,44,48,52,56,60,67,68,72,79,80,84,91,92,96,103,104,108,115] .nil) _ mixed (by kernel_rfl) (zl [0,0,0,0,0,0] 1 rfl)<|.yn 7 rfl<|.yl 0 0 rfl<|.yn 1 rfl<|.yl 1 0 rfl<|.yn 1 rfl<|.yl 2 0 rfl<|.yn 1 rfl<|.yl 3 0 rfl<|.yn 2 rfl<|.xef<|.sb 2 6 rfl<|.xk (zl [] 1 rfl)<|.yn 2 rfl<|.xef<|.sb 3 0 rfl<|.xk (zl [] 1 rfl)<|.yn 2 rfl<|.xef<|.sb 4 0 rfl<|.xk (zl [] 1 rfl)<|.yn 2 rfl<|.xef<|.sb 5 0 rfl<|.xk (zl [] 1 rfl)<|.yn 2 rfl<|.xef<|.sb 6 0 rfl<|.xk (zl [] 1 rfl)<|.xdone<|.blkN<|.thenN<|.pf [0,1,6,31] [0,1,1,1,1] 2 rfl rfl<|.region ?_;cases h1;exact .be rfl<|.ag (M3,A7,c7,A8,c8) hm1 rfl (zl [4,3,1] 0 rfl)
   refine .skip<|.blkN<|.thenN<|.pf [0,1,6,31] [] 2 rfl rfl<|.region ?_;cases h1;exact .be rfl<|.ag (M1,A7,c7,A8,c8) hm1 rfl (zl [2,1,1,1] 0 rfl)
  refine .xq rfl ?_;cases h1;cases hd1 _ rfl
  exact .thenN<|.hereI (s1.1,s1.2.1) (M1,A3,c3,A4,c4) rfl (zb rfl) zw
 rintro o3 ⟨M2,A5,c5,A6,c6⟩ ho;subst ho;have h:=unR h;refine .ab [4,5] rfl ?_;cases h;exact .rv rfl rfl (zCe ⟨g2,A5,c5,A6,c6,M2,rfl,rfl⟩) (zl [4,1,0,1] 0 rfl)
theorem zIk:Ent Tryz.prog 166:=en Tryz.func166 (by kernel_rfl)
noncomputable def uA (s_p0:ByteArray):Option Bool:=
 bnd ((bif decide ((s_p0.size:Int)<1) then (some true) else (some (decide ((s_p0.size:Int)>16))):Option Bool)) fun o1=>bif o1 then (some false) else (bnd (yE (τ:=Bool ⊕ Unit) (fun (s1:Int)=>bif decide (s1<(s_p0.size:Int)) then (bnd ((bnd (eltS s_p0 s1) fun y1=>bif decide (y1≥97) then (some (decide (y1≤122))) else (some false):Option Bool)) fun o4=>bnd ((bnd (eltS s_p0 s1) fun y2=>bif decide (y2≥48) then (bif decide (y2≤57) then (some true) else (some (y2==45))) else (some (y2==45)):Option Bool)) fun o5=>bnd ((bif !o4 then (bif (s1==0) then (some true) else (some (!o5))) else (some false):Option Bool)) fun o6=>bif o6 then (some (.done (.inl false))) else (some (.next (IntKind.wrap .i64 (s1+1))))) else (some (.done (.inr ())))) 0) fun o2=>vB o2 fun o3=>some true)
theorem lA {s_p0 r} (h:uA s_p0=some r):
    Fun Tryz.prog 166 [.string s_p0] [] (Val (.bool r)):=by
 refine Fun.intro Tryz.func166 rfl rfl rfl fun w R=>?_;refine .ab [0] rfl<|.seq<|.seq<|.bd h fun o1 hj1 h=>.cu 0 [0, .s 13 (.bool o1)] [] rfl rfl ?_ ?_
 ·refine .region<|.n 4 rfl<|.gs 9 hj1 rfl (fun hj1=>?_) (fun hj1=>?_)
  ·cases hj1;exact .be rfl<|.hU rfl zw
  cases hj1;exact .be rfl<|.hU rfl zw
 refine .cb h rfl (fun h=>?_) (fun h=>?_)
 ·refine .ab [2] rfl ?_;cases h;exact .rv rfl rfl ⟨rfl,rfl⟩ zw
 refine .sk<|.pr [0] rfl<|.seq<|.ae rfl<|.bd h fun o2 hl1 h=>.cutJ 0 (fun (o3:Unit) (e3:Unit)=>[]) (fun o3 e3=>[]) rfl rfl (fun o3=>o2= .inr o3) ?_ ?_
 ·refine .block<|.loopQ hl1 0 (fun (s1:Int) (e2:Unit)=>[0, .s 3 (.int .i64 s1)]) (fun s1 e2=>[]) rfl rfl () (zb rfl) (fun _ w=>w) ?_;rintro s1 e2 st1 hm1 hd1 h1;refine .seq<|.ab [0,3,17] rfl<|.cb h1 rfl (fun h1=>?_) (fun h1=>?_)
  ·refine .sk<|.pr [0,3] rfl<|.seq<|.block<|.seq<|.bd h1 fun o4 hj2 h1=>.cu 0 [0,3, .s 4 (.bool o4)] [] rfl rfl ?_ ?_
   ·refine .region<|.n 2 rfl<|.bd hj2 fun y1 hy1 hj2=>.eltS rfl rfl rfl rfl rfl hy1<|.n 2 rfl<|.gs 24 hj2 rfl (fun hj2=>?_) (fun hj2=>?_)
    ·refine .n 2 rfl<|.gOn rfl rfl<|.eltS rfl rfl rfl rfl rfl hy1 ?_;cases hj2;exact .be rfl<|.hU rfl zw
    cases hj2;exact .be rfl<|.hU rfl zw
   refine .seq<|.bd h1 fun o5 hj3 h1=>.cu 0 [0,3,4, .s 5 (.bool o5)] [] rfl rfl ?_ ?_
   ·refine .region<|.n 2 rfl<|.bd hj3 fun y2 hy2 hj3=>.eltS rfl rfl rfl rfl rfl hy2<|.n 2 rfl<|.gs 34 hj3 rfl (fun hj3=>?_) (fun hj3=>?_)
    ·refine .n 2 rfl<|.gOn rfl rfl<|.eltS rfl rfl rfl rfl rfl hy2<|.n 3 rfl<|.gs 40 hj3 rfl (fun hj3=>?_) (fun hj3=>?_)
     ·cases hj3;exact .be rfl<|.hU rfl zw
     refine .n 2 rfl<|.gOn rfl rfl<|.eltS rfl rfl rfl rfl rfl hy2 ?_;cases hj3;exact .be rfl<|.hU rfl zw
    refine .n 8 rfl<|.gOn rfl rfl<|.eltS rfl rfl rfl rfl rfl hy2 ?_;cases hj3;exact .be rfl<|.hU rfl zw
   refine .seq<|.bd h1 fun o6 hj4 h1=>.cu 0 [0,3, .s 55 (.bool o6)] [] rfl rfl ?_ ?_
   ·refine .region<|.n 3 rfl<|.gs 48 hj4 rfl (fun hj4=>?_) (fun hj4=>?_)
    ·refine .n 3 rfl<|.gs 51 hj4 rfl (fun hj4=>?_) (fun hj4=>?_)
     ·cases hj4;exact .be rfl<|.hU rfl zw
     cases hj4;exact .be rfl<|.hU rfl zw
    cases hj4;exact .be rfl<|.hU rfl zw
   refine .cb h1 rfl (fun h1=>?_) (fun h1=>?_)
   ·refine .ab [2] rfl ?_;cases h1;cases hd1 _ rfl
    have h:some _=some _:=h;cases h;exact .rv rfl rfl ⟨rfl,rfl⟩ zw
   refine .skip<|.blkN<|.thenN<|.pr [0,3] rfl<|.region ?_;cases h1;exact .be rfl<|.ag () hm1 rfl zw
  refine .xq rfl ?_;cases h1;cases hd1 _ rfl
  exact .thenN<|.hereI () () rfl trivial zw
 rintro o3 e3 ho;subst ho;have h:=unR h;refine .ae rfl ?_;cases h;exact .rv rfl rfl ⟨rfl,rfl⟩ zw
theorem zMn:Ent Tryz.prog 232:=en Tryz.func232 (by kernel_rfl)
noncomputable def vC (v_p0:zL):Option (zGy Int):=
 some (⟨v_p0.Major,v_p0.Minor,v_p0.Patch⟩:(zGy Int))
theorem lV {v_p0 r} (h:vC v_p0=some r):
    Fun Tryz.prog 232 [.agg #[.int .i64 v_p0.Major, .int .i64 v_p0.Minor, .int .i64 v_p0.Patch]] [] (Val (.agg #[.int .i64 r.e0, .int .i64 r.e1, .int .i64 r.e2])):=by
 unfold vC at h
 refine Fun.intro Tryz.func232 rfl rfl rfl fun w R=>?_;refine .seq<|.region<|.box rfl rfl fun g1=>.alloc rfl rfl fun g2=>.b [1,2] rfl<|.a 1 rfl<|.lb 0 1 rfl<|.p rfl rfl<|.lb 1 1 rfl<|.p rfl rfl<|.lb 2 1 rfl<|.p rfl rfl<|.sb 0 0 rfl<|.bf [2] [0] 1 rfl rfl ?_;cases h;exact .rt rfl Tryz.results232 (.cell rfl (.head _) rfl .nil) rfl ⟨rfl,rfl⟩ (zl [] 1 rfl)
theorem zIv:Ent Tryz.prog 167:=en Tryz.func167 (by kernel_rfl)
noncomputable def vI (v_p0:zL):Option Bool:=
 bnd (vC v_p0) fun r1=>bnd ((bif decide (r1.e0<0) then (some true) else (some (decide (r1.e0>999))):Option Bool)) fun o1=>bif o1 then (some false) else (bnd ((bif decide (r1.e1<0) then (some true) else (some (decide (r1.e1>999))):Option Bool)) fun o2=>bif o2 then (some false) else (bnd ((bif decide (r1.e2<0) then (some true) else (some (decide (r1.e2>999))):Option Bool)) fun o3=>bif o3 then (some false) else (some true)))
theorem mD {v_p0 r} (h:vI v_p0=some r):
    Fun Tryz.prog 167 [.agg #[.int .i64 v_p0.Major, .int .i64 v_p0.Minor, .int .i64 v_p0.Patch]] [] (Val (.bool r)):=by
 refine Fun.intro Tryz.func167 rfl rfl rfl fun w R=>?_;refine .seq<|.region<|.box rfl rfl fun g1=>.b [1] rfl<|.seq<|.seq<|.region<|.lb 0 0 rfl<|.bd h fun r1 hr1 h=>.cv [] (lV hr1) zMn rfl<|.bf [6,7] [] 1 rfl rfl<|.block<|.rounds 9<|.round<|.ae rfl<|.seq<|.condT rfl<|.sk<|.pr [6,7] rfl<|.seq<|.block<|.ab [4,6,7] rfl<|.seq<|.bd h fun o1 hj1 h=>.cu 0 [6,7, .s 15 (.bool o1)] [] rfl rfl ?_ ?_
 ·refine .region<|.n 3 rfl<|.gs 12 hj1 rfl (fun hj1=>?_) (fun hj1=>?_)
  ·cases hj1;exact .be rfl<|.hU rfl zw
  cases hj1;exact .be rfl<|.hU rfl zw
 refine .cb h rfl (fun h=>?_) (fun h=>?_)
 ·refine .ab [2] rfl ?_;cases h;exact .rv rfl rfl ⟨rfl,rfl⟩ zw
 refine .skip<|.blkN<|.thenN<|.pr [6,7] rfl<|.region<|.be rfl<|.round<|.pr [6,7] rfl<|.ae rfl<|.seq<|.condT rfl<|.sk<|.pr [6,7] rfl<|.seq<|.block<|.ab [4,6,7] rfl<|.seq<|.bd h fun o2 hj2 h=>.cu 0 [6,7, .s 15 (.bool o2)] [] rfl rfl ?_ ?_
 ·refine .region<|.n 3 rfl<|.gs 12 hj2 rfl (fun hj2=>?_) (fun hj2=>?_)
  ·cases hj2;exact .be rfl<|.hU rfl zw
  cases hj2;exact .be rfl<|.hU rfl zw
 refine .cb h rfl (fun h=>?_) (fun h=>?_)
 ·refine .ab [2] rfl ?_;cases h;exact .rv rfl rfl ⟨rfl,rfl⟩ zw
 refine .skip<|.blkN<|.thenN<|.pr [6,7] rfl<|.region<|.be rfl<|.round<|.pr [6,7] rfl<|.ae rfl<|.seq<|.condT rfl<|.sk<|.pr [6,7] rfl<|.seq<|.block<|.ab [4,6,7] rfl<|.seq<|.bd h fun o3 hj3 h=>.cu 0 [6,7, .s 15 (.bool o3)] [] rfl rfl ?_ ?_
 ·refine .region<|.n 3 rfl<|.gs 12 hj3 rfl (fun hj3=>?_) (fun hj3=>?_)
  ·cases hj3;exact .be rfl<|.hU rfl zw
  cases hj3;exact .be rfl<|.hU rfl zw
 refine .cb h rfl (fun h=>?_) (fun h=>?_)
 ·refine .ab [2] rfl ?_;cases h;exact .rv rfl rfl ⟨rfl,rfl⟩ zw
 refine .skip<|.blkN<|.thenN<|.pr [6,7] rfl<|.region<|.be rfl<|.round<|.pr [6,7] rfl<|.ae rfl<|.seq<|.condF rfl<|.xq rfl<|.thenN<|.pr [] rfl<|.ae rfl ?_;cases h;exact .rv rfl rfl ⟨rfl,rfl⟩ zw
theorem zKf:Ent Tryz.prog 88:=en Tryz.func88 (by kernel_rfl)
noncomputable def uX (i_p0:zJ):Option Bool:=
 bnd ((bnd (uA i_p0.Name) fun r1=>bif r1 then (bnd (vI i_p0.Version) fun r2=>bif r2 then (bif decide ((i_p0.Data.length:Int)≥1) then (some (decide ((i_p0.Data.length:Int)≤512))) else (some false)) else (some false)) else (some false):Option Bool)) fun o1=>some o1
theorem oE {i_p0 A1 c1 r} (h:uX i_p0=some r):
    Fun Tryz.prog 88 [.agg (xD i_p0 A1 c1).toArray] [.ro (SlL eu8 A1 c1 i_p0.Data)] (Val (.bool r)):=by
 refine Fun.intro Tryz.func88 rfl rfl rfl fun w R=>?_;refine .seq<|.region<|.box rfl rfl fun g1=>.b [1] rfl<|.seq<|.bd h fun o1 hj1 h=>.cu 2 [.s 2 (.bool o1)] [] rfl rfl ?_ ?_
 ·refine .region<|.p rfl rfl<|.lb 0 0 rfl<|.bd hj1 fun r1 hr1 hj1=>.cv [] (lA hr1) zIk rfl<|.p rfl rfl<|.gs 6 hj1 rfl (fun hj1=>?_) (fun hj1=>?_)
  ·refine .n 1 rfl<|.gOn rfl rfl<|.lb 1 0 rfl<|.gOn rfl rfl<|.bd hj1 fun r2 hr2 hj1=>.cv [] (mD hr2) zIv rfl<|.n 2 rfl<|.gs 11 hj1 rfl (fun hj1=>?_) (fun hj1=>?_)
   ·refine .n 1 rfl<|.gOn rfl rfl<|.lb 4 0 rfl<|.n 4 rfl<|.gs 17 hj1 rfl (fun hj1=>?_) (fun hj1=>?_)
    ·refine .n 1 rfl<|.gOn rfl rfl<|.lb 4 0 rfl ?_;cases hj1;exact .be rfl<|.hU rfl (zl [] 2 rfl)
    cases hj1;exact .be rfl<|.hU rfl (zl [] 2 rfl)
   cases hj1;exact .be rfl<|.hU rfl (zl [] 2 rfl)
  cases hj1;exact .be rfl<|.hU rfl (zl [] 2 rfl)
 cases h;exact .rv rfl rfl ⟨rfl,rfl⟩ zw
theorem zDc:Ent Tryz.prog 130:=en Tryz.func130 (by kernel_rfl)
noncomputable def qV (i_p0:zJ):Option zJ:=
 bnd (zQ i_p0.Data) fun r1=>some (⟨i_p0.Name,i_p0.Version,r1⟩:zJ)
theorem iY {i_p0 A1 c1 r} (h:qV i_p0=some r):
    Fun Tryz.prog 130 [.agg (xD i_p0 A1 c1).toArray] [.ro (SlL eu8 A1 c1 i_p0.Data)] (fun v F=>∃ A2 c2,v= .agg (xD r A2 c2).toArray∧F= [.ro (SlL eu8 A2 c2 r.Data)]):=by
 refine Fun.intro Tryz.func130 rfl rfl rfl fun w R=>?_;refine .seq<|.region<|.box rfl rfl fun g1=>.alloc rfl rfl fun g2=>.b [1,2] rfl<|.a 1 rfl<|.lb 4 1 rfl<|.bd h fun r1 hr1 h=>.cr 4 [2] [] 0 (yK hr1) bB rfl fun A2 c2=>.p rfl rfl<|.sb 4 2 rfl<|.bf [1,2] [0,0,0] 1 rfl rfl<|.seq<|.region<|.lb 0 0 rfl<|.sb 0 2 rfl<|.bf [2] [0] 1 rfl rfl<|.asrt (fun _ w=>(w.sl [1] 0 rfl).meltL) ?_;cases h;exact .rt rfl Tryz.results130 (.cell rfl (.tail _ (.head _)) rfl .nil) rfl ⟨A2,c2,rfl,rfl⟩ (zk 1 2 [0] [] 0 rfl)
theorem zLV:Ent Tryz.prog 133:=en Tryz.func133 (by kernel_rfl)
noncomputable def rS (b_p0:(List Int)) (s_p1:ByteArray):Option (List Int):=
 bnd (app 1 b_p0 [IntKind.wrap .u8 (s_p1.size:Int)]) fun l1=>bnd (app 1 l1 (nE s_p1)) fun l2=>some l2
theorem eF {b_p0 s_p1 A1 c1 r} (h:rS b_p0 s_p1=some r):
    Fun Tryz.prog 133 [.slice A1 b_p0.length c1, .string s_p1] [.res (zM eu8 5 A1 c1 b_p0)] (fun v F=>∃ A2 c2,v= .slice A2 r.length c2∧F= [.res (zM eu8 5 A2 c2 r)]):=by
 refine Fun.intro Tryz.func133 rfl rfl rfl fun w R=>?_;refine .ab [0,1] rfl<|.a 4 rfl<|.bS rfl fun g1=>.bd h fun l1 hl1 h=>.app (E:=eu8) hl1 rfl rfl rfl (.s .z) rfl rfl rfl rfl rfl rfl rfl rfl (eI (.head _) rfl rfl) rfl rfl fun A2 c2=>.p rfl rfl<|.bd h fun l2 hl2 h=>.app (E:=eu8) hl2 rfl rfl rfl .z rfl rfl rfl rfl rfl rfl rfl (by simp [nE,ByteArray.toList_eq]) (zWX s_p1) rfl rfl fun A3 c3=>.bf [4] [0] 1 rfl rfl ?_;cases h;exact .rv rfl rfl ⟨A3,c3,rfl,rfl⟩ zw
theorem zIu:Ent Tryz.prog 168:=en Tryz.func168 (by kernel_rfl)
noncomputable def tA (b_p0:(List Int)) (n_p1:Int):Option (List Int):=
 bnd (app 1 b_p0 [IntKind.wrap .u8 (vY .i64 n_p1 8),IntKind.wrap .u8 n_p1]) fun l1=>some l1
theorem lZ {b_p0 n_p1 A1 c1 r} (h:tA b_p0 n_p1=some r):
    Fun Tryz.prog 168 [.slice A1 b_p0.length c1, .int .i64 n_p1] [.res (zM eu8 5 A1 c1 b_p0)] (fun v F=>∃ A2 c2,v= .slice A2 r.length c2∧F= [.res (zM eu8 5 A2 c2 r)]):=by
 refine Fun.intro Tryz.func168 rfl rfl rfl fun w R=>?_;refine .ab [0,1] rfl<|.a 6 rfl<|.bS rfl fun g1=>.bd h fun l1 hl1 h=>.app (E:=eu8) hl1 rfl rfl rfl (.s .z) rfl rfl rfl rfl rfl rfl rfl rfl (eI (.head _) rfl rfl) rfl rfl fun A2 c2=>.bf [4] [0] 1 rfl rfl ?_;cases h;exact .rv rfl rfl ⟨A2,c2,rfl,rfl⟩ zw
theorem zMu:Ent Tryz.prog 132:=en Tryz.func132 (by kernel_rfl)
noncomputable def vU (b_p0:(List Int)) (v_p1:zL):Option (List Int):=
 bnd (tA b_p0 v_p1.Major) fun r1=>bnd (tA r1 v_p1.Minor) fun r2=>bnd (tA r2 v_p1.Patch) fun r3=>some r3
theorem kT {b_p0 v_p1 A1 c1 r} (h:vU b_p0 v_p1=some r):
    Fun Tryz.prog 132 [.slice A1 b_p0.length c1, .agg #[.int .i64 v_p1.Major, .int .i64 v_p1.Minor, .int .i64 v_p1.Patch]] [.res (zM eu8 5 A1 c1 b_p0)] (fun v F=>∃ A2 c2,v= .slice A2 r.length c2∧F= [.res (zM eu8 5 A2 c2 r)]):=by
 unfold vU at h
 refine Fun.intro Tryz.func132 rfl rfl rfl fun w R=>?_;refine .seq<|.region<|.box rfl rfl fun g1=>.b [0,3] rfl<|.seq<|.regionX (iN [0,4,9,16,20,28,32,15,27,39,40] .nil) _ mixed (by kernel_rfl) (zl [0] 1 rfl)<|.yn 2 rfl<|.yx 0 0 rfl<|.yn 1 rfl<|.yl 1 0 rfl<|.yn 1 rfl<|.yl 2 0 rfl<|.xef<|.bd h fun r1 hr1 h=>.cr 2 [] [1] 0 (lZ hr1) zIu rfl fun A2 c2=>.xk (zl [] 1 rfl)<|.xef<|.bd h fun r2 hr2 h=>.cr 2 [] [] 0 (lZ hr2) zIu rfl fun A3 c3=>.xk (zl [] 1 rfl)<|.xef<|.bd h fun r3 hr3 h=>.cr 2 [] [] 0 (lZ hr3) zIu rfl fun A4 c4=>.xk (zl [] 1 rfl)<|.yn 1 rfl<|.xdone<|.thenN<|.pf [4] [0] 1 rfl rfl ?_;cases h;exact .rv rfl rfl ⟨A4,c4,rfl,rfl⟩ zw
theorem zUg:Ent Tryz.prog 89:=en Tryz.func89 (by kernel_rfl)
noncomputable def qE (i_p0:zJ):Option (List Int):=
 bnd (rS ([]) i_p0.Name) fun r1=>bnd (vU r1 i_p0.Version) fun r2=>bnd (tA r2 (i_p0.Data.length:Int)) fun r3=>bnd (app 1 r3 i_p0.Data) fun l1=>some l1
theorem zAb {i_p0 A1 c1 r} (h:qE i_p0=some r):
    Fun Tryz.prog 89 [.agg (xD i_p0 A1 c1).toArray] [.ro (SlL eu8 A1 c1 i_p0.Data)] (fun v F=>∃ A2 c2,v= .slice A2 r.length c2∧F= [.res (zM eu8 5 A2 c2 r)]):=by
 unfold qE at h
 refine Fun.intro Tryz.func89 rfl rfl rfl fun w R=>?_;refine .seq<|.region<|.box rfl rfl fun g1=>.b [1] rfl<|.seq<|.regionX (iN [0,5,12,16,24,28,32,40,44,11,23,39,51,52] .nil) _ mixed (by kernel_rfl) zw<|.yn 1 rfl<|.yx 0 0 rfl<|.yn 1 rfl<|.yl 1 0 rfl<|.yn 1 rfl<|.yl 4 0 rfl<|.yn 2 rfl<|.yl 4 0 rfl<|.xef<|.asrt (fun _ w=>w.nilL eu8 5)<|.bd h fun r1 hr1 h=>.cr 3 [] [] 0 (eF hr1) zLV rfl fun A2 c2=>.xk (zl [] 1 rfl)<|.xef<|.bd h fun r2 hr2 h=>.cr 3 [] [] 0 (kT hr2) zMu rfl fun A3 c3=>.xk (zl [] 1 rfl)<|.xef<|.bd h fun r3 hr3 h=>.cr 3 [] [] 0 (lZ hr3) zIu rfl fun A4 c4=>.xk (zl [] 1 rfl)<|.xef<|.bd h fun l1 hl1 h=>.app (E:=eu8) hl1 rfl rfl rfl .z rfl rfl rfl rfl rfl rfl rfl rfl (iV (.tail _ (.tail _ (.head _)))) rfl rfl fun A5 c5=>.xk (zl [] 1 rfl)<|.yn 1 rfl<|.xdone<|.thenN<|.pf [2] [0] 2 rfl rfl ?_;cases h;exact .rv rfl rfl ⟨A5,c5,rfl,rfl⟩ zw
theorem zNF:Ent Tryz.prog 71:=en Tryz.func71 (by kernel_rfl)
noncomputable def xZ (b_p0:(List Int)):Option Int:=
 bnd (yE (τ:=Int) (fun (s1:Int × Int)=>bif decide (s1.2<(b_p0.length:Int)) then (bnd (elt b_p0 s1.2) fun x1=>bnd (yE (τ:=Int) (fun (s2:Int × Int)=>bif decide (s2.2<8) then (some (.next (fF .u32 (vY .u32 s2.1 1) (IntKind.wrap .u32 ((rA .u32 s2.1 1)*3988292384)),IntKind.wrap .i64 (s2.2+1)))) else (some (.done s2.1))) (fF .u32 s1.1 (IntKind.wrap .u32 x1),0)) fun o2=>some (.next (o2,IntKind.wrap .i64 (s1.2+1)))) else (some (.done s1.1))) (4294967295,0)) fun o1=>some (fF .u32 (if IntKind.signed .u32 then -1 else IntKind.max .u32) o1)
theorem oV {b_p0 A1 c1 r} (h:xZ b_p0=some r):
    Fun Tryz.prog 71 [.slice A1 b_p0.length c1] [.ro (SlL eu8 A1 c1 b_p0)] (Val (.int .u32 r)):=by
 refine Fun.intro Tryz.func71 rfl rfl rfl fun w R=>?_;refine .ab [0] rfl<|.ae rfl<|.seq<|.ab [3,7,8,9] rfl<|.bd h fun o1 hl1 h=>.cu 1 [.s 3 (.int .u32 o1)] [] rfl rfl ?_ ?_
 ·refine .block<|.loopQ hl1 0 (fun (s1:Int × Int) (e1:Unit)=>[.s 3 (.int .u32 s1.1),7,8, .s 9 (.int .i64 s1.2)]) (fun s1 e1=>[]) rfl rfl () (zb rfl) (fun _ w=>w) ?_;rintro s1 e1 st1 hm1 hd1 h1;refine .ae rfl<|.seq<|.cb h1 rfl (fun h1=>?_) (fun h1=>?_)
  ·refine .sk<|.pr [3,7,8,9] rfl<|.seq<|.block<|.seq<|.region<|.bd h1 fun x1 hx1 h1=>.ix1 hx1 0 rfl fun b1 ob1=>.ld ob1 0 0 rfl<|.bf [3,5,7,8,9] [] 1 rfl rfl<|.ab [3,7,8,9] rfl<|.ae rfl<|.bd h1 fun o2 hl2 h1=>.selfThen<|.cu 0 [.s 3 (.int .u32 o2),7,8,9] [] rfl rfl ?_ ?_
   ·refine .block<|.loopQ hl2 0 (fun (s2:Int × Int) (e3:Unit)=>[.s 3 (.int .u32 s2.1),7,8,9, .s 17 (.int .i64 s2.2)]) (fun s2 e3=>[]) rfl rfl () (zb rfl) (fun _ w=>w) ?_;rintro s2 e3 st2 hm2 hd2 h2;refine .ae rfl<|.seq<|.cb h2 rfl (fun h2=>?_) (fun h2=>?_)
    ·refine .sk<|.pr [3,7,8,9,17] rfl<|.seq<|.block<|.ab [3,6,7,8,9,17] rfl<|.region<|.n 6 rfl<|.done<|.blkN<|.thenN<|.pr [3,7,8,9,17] rfl<|.region ?_;cases h2;exact .be rfl<|.ag () hm2 rfl zw
    refine .xq rfl ?_;cases h2;cases hd2 _ rfl
    exact .thenN<|.hU rfl zw
   refine .blkN<|.thenN<|.region ?_;cases h1;exact .be rfl<|.ag () hm1 rfl zw
  refine .xq rfl ?_;cases h1;cases hd1 _ rfl
  exact .thenN<|.hU rfl (zl [] 1 rfl)
 refine .ab [2] rfl ?_;cases h;exact .rv rfl rfl ⟨rfl,rfl⟩ zw
theorem zNy:Ent Tryz.prog 29:=en Tryz.func29 (by kernel_rfl)
noncomputable def qT (i_p0:zJ):Option Int:=
 bnd (uX i_p0) fun r1=>bif !r1 then (some 0) else (bnd (qE i_p0) fun r2=>bnd (xZ r2) fun r3=>some r3)
theorem hM {i_p0 A1 c1 r} (h:qT i_p0=some r):
    Fun Tryz.prog 29 [.agg (xD i_p0 A1 c1).toArray] [.ro (SlL eu8 A1 c1 i_p0.Data)] (Val (.int .u32 r)):=by
 refine Fun.intro Tryz.func29 rfl rfl rfl fun w R=>?_;refine .seq<|.region<|.box rfl rfl fun g1=>.b [1] rfl<|.seq<|.seq<|.region<|.lb 0 0 rfl<|.bd h fun r1 hr1 h=>.cv [1] (oE hr1) zKf rfl<|.b [1,5] rfl<|.cb h rfl (fun h=>?_) (fun h=>?_)
 ·refine .abf [2] [] 2 rfl rfl ?_;cases h;exact .rv rfl rfl ⟨rfl,rfl⟩ zw
 refine .sk<|.pr [1] rfl<|.seq<|.region<|.lb 0 0 rfl<|.bd h fun r2 hr2 h=>.cr 3 [1] [] 0 (zAb hr2) zUg rfl fun A2 c2=>.asrt (fun _ w=>w.meltL)<|.bd h fun r3 hr3 h=>.cv [0] (oV hr3) zNF rfl<|.bf [2] [] 3 rfl rfl ?_;cases h;exact .rv rfl rfl ⟨rfl,rfl⟩ zw
theorem zNo:Ent Tryz.prog 53:=en Tryz.func53 (by kernel_rfl)
noncomputable def mF (i_p0:zJ):Option (zB × Int):=
 bnd (uX i_p0) fun r1=>bif !r1 then (some ((⟨⟨#[]⟩,(⟨(⟨(⟨⟨#[]⟩,(⟨0,0,0⟩:zL), []⟩:zJ),0⟩:yF),(⟨(⟨⟨#[]⟩,(⟨0,0,0⟩:zL), []⟩:zJ),0⟩:yF)⟩:(qN yF)),0,0,false⟩:zB),1)) else (bnd (qV i_p0) fun r2=>bnd (qT i_p0) fun r3=>some ((⟨i_p0.Name,(⟨(⟨r2,r3⟩:yF),(⟨(⟨⟨#[]⟩,(⟨0,0,0⟩:zL), []⟩:zJ),0⟩:yF)⟩:(qN yF)),0,0,false⟩:zB),0))
theorem cF {i_p0 A1 c1 r} (h:mF i_p0=some r):
    Fun Tryz.prog 53 [.agg (xD i_p0 A1 c1).toArray] [.ro (SlL eu8 A1 c1 i_p0.Data)] (fun v F=>∃ A2 c2 A3 c3,v= .tuple #[.agg (zO r.1 A2 c2 A3 c3).toArray, .int .i64 r.2]∧F= [.ro (SlL eu8 A2 c2 r.1.Slots.e0.Image.Data), .ro (SlL eu8 A3 c3 r.1.Slots.e1.Image.Data)]):=by
 refine Fun.intro Tryz.func53 rfl rfl rfl fun w R=>?_;refine .seq<|.region<|.box rfl rfl fun g1=>.alloc rfl rfl fun g2=>.b [1,2] rfl<|.seq<|.seq<|.region<|.lb 0 1 rfl<|.bd h fun r1 hr1 h=>.cv [2] (oE hr1) zKf rfl<|.b [1,2,7] rfl<|.cb h rfl (fun h=>?_) (fun h=>?_)
 ·refine .a 1 rfl<|.sb 0 0 rfl<|.bf [2,3] [0] 2 rfl rfl<|.asrt (fun _ w=>w.nilSl (cod eu8))<|.asrt (fun _ w=>w.nilSl (cod eu8)) ?_;cases h;exact .rt rfl Tryz.results53 (.cell rfl (.tail _ (.tail _ (.head _))) rfl (.tmp rfl .nil)) rfl ⟨none,0,none,0,rfl,rfl⟩ (zk 2 3 [0,0] [] 0 rfl)
 refine .sk<|.pr [1,2] rfl<|.a 1 rfl<|.lb 0 1 rfl<|.p rfl rfl<|.alloc rfl rfl fun g3=>.sb 0 0 rfl<|.b [1,2,4] rfl<|.seq<|.regionX (iN [1,8,20,7,14,16,24,31] .nil) _ mixed (by kernel_rfl) (zl [] 1 rfl)<|.yx 0 2 rfl<|.yl 0 1 rfl<|.yn 1 rfl<|.xef<|.bd h fun r2 hr2 h=>.cr 5 [3] [] 0 (iY hr2) zDc rfl fun A2 c2=>.xk (zl [] 2 rfl)<|.bd h fun r3 hr3 h=>.xqc (fun _ h=>h) (hM hr3) zNy rfl rfl rfl rfl (za [2] rfl)<|.yn 2 rfl<|.xef<|.sb 1 1 rfl<|.xk (zl [] 2 rfl)<|.xdone<|.thenN<|.pf [2,4] [0,0,0] 2 rfl rfl<|.seq<|.region<|.lb 0 0 rfl<|.sb 0 2 rfl<|.bf [2,3] [0] 1 rfl rfl<|.asrt (fun _ w=>w.nilSl (cod eu8)) ?_;cases h;exact .rt rfl Tryz.results53 (.cell rfl (.tail _ (.head _)) rfl (.tmp rfl .nil)) rfl ⟨A2,c2,none,0,rfl,rfl⟩ (zk 2 3 [2,0] [] 0 rfl)
theorem zWy:Ent Tryz.prog 90:=en Tryz.func90 (by kernel_rfl)
noncomputable def iT (s_p0:yF):Option Bool:=
 bnd ((bnd (uX s_p0.Image) fun r1=>bif r1 then (bnd (qT s_p0.Image) fun r2=>some (s_p0.Sum==r2)) else (some false):Option Bool)) fun o1=>some o1
theorem zIZ {s_p0 A1 c1 r} (h:iT s_p0=some r):
    Fun Tryz.prog 90 [.agg (kR s_p0 A1 c1).toArray] [.ro (SlL eu8 A1 c1 s_p0.Image.Data)] (Val (.bool r)):=by
 refine Fun.intro Tryz.func90 rfl rfl rfl fun w R=>?_;refine .seq<|.region<|.box rfl rfl fun g1=>.b [1] rfl<|.seq<|.bd h fun o1 hj1 h=>.cu 2 [.s 2 (.bool o1)] [] rfl rfl ?_ ?_
 ·refine .regionF mixed (by kernel_rfl)<|.p rfl rfl<|.lb 0 0 rfl<|.bd hj1 fun r1 hr1 hj1=>.cv [1] (oE hr1) zKf rfl<|.p rfl rfl<|.gs 6 hj1 rfl (fun hj1=>?_) (fun hj1=>?_)
  ·refine .n 1 rfl<|.gOn rfl rfl<|.lb 5 0 rfl<|.n 1 rfl<|.gOn rfl rfl<|.lb 0 0 rfl<|.gOn rfl rfl<|.bd hj1 fun r2 hr2 hj1=>.cv [1] (hM hr2) zNy rfl ?_;cases hj1;exact .beq rfl<|.hU rfl (zl [] 2 rfl)
  cases hj1;exact .beq rfl<|.hU rfl (zl [] 2 rfl)
 cases h;exact .rv rfl rfl ⟨rfl,rfl⟩ zw
theorem zKA:Ent Tryz.prog 86:=en Tryz.func86 (by kernel_rfl)
noncomputable def oK (d_p0:zB) (s_p1:yF):Option Bool:=
 bnd ((bnd (iT s_p1) fun r1=>bif r1 then (some (s_p1.Image.Name.toList==d_p0.Name.toList)) else (some false):Option Bool)) fun o1=>some o1
theorem gZ {d_p0 s_p1 A1 c1 A2 c2 A3 c3 r} (h:oK d_p0 s_p1=some r):
    Fun Tryz.prog 86 [.agg (zO d_p0 A1 c1 A2 c2).toArray, .agg (kR s_p1 A3 c3).toArray] [.ro (SlL eu8 A1 c1 d_p0.Slots.e0.Image.Data), .ro (SlL eu8 A2 c2 d_p0.Slots.e1.Image.Data), .ro (SlL eu8 A3 c3 s_p1.Image.Data)] (Val (.bool r)):=by
 refine Fun.intro Tryz.func86 rfl rfl rfl fun w R=>?_;refine .seq<|.region<|.box rfl rfl fun g1=>.box rfl rfl fun g2=>.b [2,3] rfl<|.seq<|.bd h fun o1 hj1 h=>.cu 5 [.s 4 (.bool o1)] [] rfl rfl ?_ ?_
 ·refine .region<|.lb 0 0 rfl<|.bd hj1 fun r1 hr1 hj1=>.cv [4] (zIZ hr1) zWy rfl<|.p rfl rfl<|.gs 7 hj1 rfl (fun hj1=>?_) (fun hj1=>?_)
  ·refine .n 2 rfl<|.gOn rfl rfl<|.lb 0 0 rfl<|.n 1 rfl<|.gOn rfl rfl<|.lb 0 1 rfl ?_;cases hj1;exact .be rfl<|.hU rfl (zl [] 5 rfl)
  cases hj1;exact .be rfl<|.hU rfl (zl [] 5 rfl)
 cases h;exact .rv rfl rfl ⟨rfl,rfl⟩ zw
theorem zHL:Ent Tryz.prog 87:=en Tryz.func87 (by kernel_rfl)
noncomputable def uS (d_p0:zB):Option Int:=
 bnd (elt [d_p0.Slots.e0,d_p0.Slots.e1] (IntKind.wrap .i64 (1 - d_p0.Running))) fun x1=>some (IntKind.wrap .i64 (1 - d_p0.Running))
theorem nA {d_p0 A1 c1 A2 c2 gb1 r} (h:uS d_p0=some r):
    Fun Tryz.prog 87 [.pointer (some ⟨gb1,0,none⟩)] [.ro (SlL eu8 A1 c1 d_p0.Slots.e0.Image.Data), .ro (SlL eu8 A2 c2 d_p0.Slots.e1.Image.Data), .res (Box gb1 64 (zO d_p0 A1 c1 A2 c2))] (fun v F=>v= .pointer (some ⟨gb1,1+Int.toNat r*6,none⟩)∧F= [.res (Box gb1 64 (zO d_p0 A1 c1 A2 c2))]):=by
 refine Fun.intro Tryz.func87 rfl rfl rfl fun w R=>?_;refine .ab [0] rfl<|.seq<|.regionF mixed (by kernel_rfl)<|.n 4 rfl<|.lb 14 2 rfl<|.n 3 rfl<|.bd h fun x1 hx1 h=>.ixP (sz:=6) hx1 rfl rfl rfl rfl rfl rfl rfl rfl<|.bq [2] rfl ?_;cases h;exact .rv rfl rfl ⟨rfl,rfl⟩ (zl [] 2 rfl)
theorem zHo:Ent Tryz.prog 27:=en Tryz.func27 (by kernel_rfl)
noncomputable def tU (d_p0:zB):Option Bool:=
 bnd ((bif decide (d_p0.Active<0) then (some true) else (bif decide (d_p0.Active>1) then (some true) else (bif decide (d_p0.Running<0) then (some true) else (bif decide (d_p0.Running>1) then (some true) else (bnd (elt [d_p0.Slots.e0,d_p0.Slots.e1] d_p0.Active) fun x1=>bnd (oK d_p0 x1) fun r1=>bif !r1 then (some true) else (bnd (elt [d_p0.Slots.e0,d_p0.Slots.e1] d_p0.Running) fun x2=>bnd (oK d_p0 x2) fun r2=>some (!r2)))))):Option Bool)) fun o1=>bif o1 then (some false) else (bnd ((bif !d_p0.Trial then (some true) else (bif (d_p0.Running==d_p0.Active) then (bnd (uS d_p0) fun r3=>bnd (elt [d_p0.Slots.e0,d_p0.Slots.e1] r3) fun x3=>bnd (oK d_p0 x3) fun r4=>some r4) else (some false)):Option Bool)) fun o2=>some o2)
end Go.Proofs.YtplchdlgdjcojaaGreatDoor
end
section
namespace Go.Proofs.YtplchdlgdjcojaaGreatDoor
open Go
set_option linter.unusedVariables false
set_option maxHeartbeats 4000000
set_option maxRecDepth 4000
theorem oW {d_p0 A1 c1 A2 c2 r} (h:tU d_p0=some r):
    Fun Tryz.prog 27 [.agg (zO d_p0 A1 c1 A2 c2).toArray] [.ro (SlL eu8 A1 c1 d_p0.Slots.e0.Image.Data), .ro (SlL eu8 A2 c2 d_p0.Slots.e1.Image.Data)] (Val (.bool r)):=by
 refine Fun.intro Tryz.func27 rfl rfl rfl fun w R=>?_;refine .seq<|.region<|.box rfl rfl fun g1=>.b [1] rfl<|.seq<|.seq<|.bd h fun o1 hj1 h=>.cutK 0 (fun (e1:Unit)=>[1, .s 40 (.bool o1)]) (fun e1=>[]) rfl rfl ?_ ?_
 ·refine .regionF mixed (by kernel_rfl)<|.p rfl rfl<|.lb 13 0 rfl<|.n 2 rfl<|.gs 6 hj1 rfl (fun hj1=>?_) (fun hj1=>?_)
  ·cases hj1;exact .beq rfl<|.hU rfl zw
  refine .n 1 rfl<|.gOn rfl rfl<|.lb 13 0 rfl<|.n 3 rfl<|.gs 11 hj1 rfl (fun hj1=>?_) (fun hj1=>?_)
  ·cases hj1;exact .beq rfl<|.hU rfl zw
  refine .n 1 rfl<|.gOn rfl rfl<|.lb 14 0 rfl<|.n 3 rfl<|.gs 16 hj1 rfl (fun hj1=>?_) (fun hj1=>?_)
  ·cases hj1;exact .beq rfl<|.hU rfl zw
  refine .n 1 rfl<|.gOn rfl rfl<|.lb 14 0 rfl<|.n 3 rfl<|.gs 21 hj1 rfl (fun hj1=>?_) (fun hj1=>?_)
  ·cases hj1;exact .beq rfl<|.hU rfl zw
  refine .gOn rfl rfl<|.lb 0 0 rfl<|.n 1 rfl<|.gOn rfl rfl<|.lb 13 0 rfl<|.n 1 rfl<|.gOn rfl rfl<|.bd hj1 fun x1 hx1 hj1=>.ixP (sz:=6) hx1 rfl rfl rfl rfl rfl rfl rfl rfl<|.gOn rfl rfl<|.ldP (ls:=lM) 0 [.string d_p0.Name] [.int .i64 d_p0.Active, .int .i64 d_p0.Running, .bool d_p0.Trial] [(d_p0.Slots.e0,((A1,c1),())),(d_p0.Slots.e1,((A2,c2),()))] (fun ex=>.agg (kR x1 ex.1.1 ex.1.2).toArray) hx1 rfl rfl (.head _) rfl rfl rfl ⟨(.tail _ (.head _)),(zm 2 rfl),trivial⟩ rfl (fun _=>rfl) fun ex1=>?_;obtain ⟨⟨A3,c3⟩,_⟩:=ex1;refine .nm 4 rfl<|.gOn rfl rfl<|.bd hj1 fun r1 hr1 hj1=>.cv [2,3,0] (gZ hr1) zKA rfl<|.n 3 rfl<|.gs 31 hj1 rfl (fun hj1=>?_) (fun hj1=>?_)
  ·cases hj1;exact .beq rfl<|.hU rfl (zl [] 1 rfl)
  refine .gOn rfl rfl<|.lb 0 1 rfl<|.n 1 rfl<|.gOn rfl rfl<|.lb 14 1 rfl<|.n 1 rfl<|.gOn rfl rfl<|.bd hj1 fun x2 hx2 hj1=>.ixP (sz:=6) hx2 rfl rfl rfl rfl rfl rfl rfl rfl<|.gOn rfl rfl<|.ldP (ls:=lM) 0 [.string d_p0.Name] [.int .i64 d_p0.Active, .int .i64 d_p0.Running, .bool d_p0.Trial] [(d_p0.Slots.e0,((A1,c1),())),(d_p0.Slots.e1,((A2,c2),()))] (fun ex=>.agg (kR x2 ex.1.1 ex.1.2).toArray) hx2 rfl rfl (.tail _ (.head _)) rfl rfl rfl ⟨(zm 2 rfl),(zm 3 rfl),trivial⟩ rfl (fun _=>rfl) fun ex2=>?_;obtain ⟨⟨A4,c4⟩,_⟩:=ex2;refine .nm 5 rfl<|.gOn rfl rfl<|.bd hj1 fun r2 hr2 hj1=>.cv [3,4,0] (gZ hr2) zKA rfl ?_;cases hj1;exact .beq rfl<|.hU rfl (zl [] 2 rfl)
 rintro e1;refine .cb h rfl (fun h=>?_) (fun h=>?_)
 ·refine .abf [2] [] 3 rfl rfl ?_;cases h;exact .rv rfl rfl ⟨rfl,rfl⟩ zw
 refine .sk<|.pr [1] rfl<|.seq<|.bd h fun o2 hj2 h=>.cu 3 [.s 2 (.bool o2)] [] rfl rfl ?_ ?_
 ·refine .regionX (iN [0,5,8,12,16,21,24,29,32,36,40,47,48,55,59,60,64,68] .nil) _ mixed (by kernel_rfl) zw<|.yn 1 rfl<|.yx 15 0 rfl<|.yn 2 rfl<|.sB 44 hj2 rfl (fun hj2=>?_) (fun hj2=>?_)
  ·refine .yn 14 rfl<|.xdone ?_;cases hj2;exact .thenN<|.hU rfl (zl [] 3 rfl)
  refine .yn 1 rfl<|.xgOn rfl rfl<|.yx 14 0 rfl<|.yn 1 rfl<|.xgOn rfl rfl<|.yx 13 0 rfl<|.yn 2 rfl<|.sB 50 hj2 rfl (fun hj2=>?_) (fun hj2=>?_)
  ·refine .xgOn rfl rfl<|.yl 0 0 rfl<|.xgOn rfl rfl<|.xef<|.bd hj2 fun r3 hr3 hj2=>.cq 3 [1,2] [] 0 (nA hr3) zHL rfl<|.xk zw<|.yn 1 rfl<|.xgOn rfl rfl<|.xef<|.bd hj2 fun x3 hx3 hj2=>.ldP (ls:=lM) 0 [.string d_p0.Name] [.int .i64 d_p0.Active, .int .i64 d_p0.Running, .bool d_p0.Trial] [(d_p0.Slots.e0,((A1,c1),())),(d_p0.Slots.e1,((A2,c2),()))] (fun ex=>.agg (kR x3 ex.1.1 ex.1.2).toArray) hx3 rfl rfl (.head _) rfl rfl rfl ⟨(.tail _ (.head _)),(zm 2 rfl),trivial⟩ rfl (fun _=>rfl) fun ex3=>?_;obtain ⟨⟨A5,c5⟩,_⟩:=ex3;refine .nm 4 rfl<|.xk (zl [] 1 rfl)<|.xgOn rfl rfl<|.xef<|.bd hj2 fun r4 hr4 hj2=>.cv [2,3,0] (gZ hr4) zKA rfl<|.xk (zl [] 1 rfl)<|.yn 3 rfl<|.xdone ?_;cases hj2;exact .thenN<|.hU rfl (zl [] 4 rfl)
  refine .yn 8 rfl<|.xdone ?_;cases hj2;exact .thenN<|.hU rfl (zl [] 3 rfl)
 cases h;exact .rv rfl rfl ⟨rfl,rfl⟩ zw
theorem zVo:Ent Tryz.prog 142:=en Tryz.func142 (by kernel_rfl)
noncomputable def vQ (l_p0:(List zH)):Option Bool:=
 bif decide ((l_p0.length:Int)>8) then (some false) else (bnd (yE (τ:=Bool ⊕ Unit) (fun (s1:Int)=>bif decide (s1<(l_p0.length:Int)) then (bnd (elt l_p0 s1) fun x1=>bnd ((bnd (uA x1.Name) fun r1=>bif !r1 then (some true) else (bnd (vI x1.Version) fun r2=>bif !r2 then (some true) else (bif decide (s1>0) then (bnd (elt l_p0 (IntKind.wrap .i64 (s1 - 1))) fun x2=>some (Op.bytesLess x1.Name.toList x2.Name.toList||(x1.Name.toList==x2.Name.toList))) else (some false))):Option Bool)) fun o3=>bif o3 then (some (.done (.inl false))) else (some (.next (IntKind.wrap .i64 (s1+1))))) else (some (.done (.inr ())))) 0) fun o1=>vB o1 fun o2=>some true)
theorem aL {l_p0 A1 c1 r} (h:vQ l_p0=some r):
    Fun Tryz.prog 142 [.slice A1 l_p0.length c1] [.ro (SlL zK A1 c1 l_p0)] (Val (.bool r)):=by
 refine Fun.intro Tryz.func142 rfl rfl rfl fun w R=>?_;refine .ab [0] rfl<|.seq<|.ab [0,7] rfl<|.cb h rfl (fun h=>?_) (fun h=>?_)
 ·refine .abf [2] [] 1 rfl rfl ?_;cases h;exact .rv rfl rfl ⟨rfl,rfl⟩ zw
 refine .sk<|.pr [0] rfl<|.seq<|.ae rfl<|.bd h fun o1 hl1 h=>.cutJ 1 (fun (o2:Unit) (e2:Unit)=>[]) (fun o2 e2=>[]) rfl rfl (fun o2=>o1= .inr o2) ?_ ?_
 ·refine .block<|.loopQ hl1 0 (fun (s1:Int) (e1:Unit)=>[0,8,9, .s 10 (.int .i64 s1)]) (fun s1 e1=>[]) rfl rfl () (zb rfl) (fun _ w=>w) ?_;rintro s1 e1 st1 hm1 hd1 h1;refine .ae rfl<|.seq<|.cb h1 rfl (fun h1=>?_) (fun h1=>?_)
  ·refine .sk<|.pr [0,8,9,10] rfl<|.seq<|.block<|.a 1 rfl<|.bd h1 fun x1 hx1 h1=>.ix1 hx1 0 rfl fun b1 ob1=>.ld ob1 0 0 rfl<|.alloc rfl rfl fun g1=>.p rfl rfl<|.sb 0 0 rfl<|.bf [0,3,4,8,9,10] [0] 1 rfl rfl<|.seq<|.bd h1 fun o3 hj1 h1=>.cu 1 [0,8,9,10, .s 39 (.bool o3)] [] rfl rfl ?_ ?_
   ·refine .regionF mixed (by kernel_rfl)<|.p rfl rfl<|.lb 0 0 rfl<|.bd hj1 fun r1 hr1 hj1=>.cv [] (lA hr1) zIk rfl<|.n 2 rfl<|.gs 19 hj1 rfl (fun hj1=>?_) (fun hj1=>?_)
    ·cases hj1;exact .beq rfl<|.hU rfl (zl [] 1 rfl)
    refine .n 1 rfl<|.gOn rfl rfl<|.lb 1 0 rfl<|.gOn rfl rfl<|.bd hj1 fun r2 hr2 hj1=>.cv [] (mD hr2) zIv rfl<|.n 3 rfl<|.gs 25 hj1 rfl (fun hj1=>?_) (fun hj1=>?_)
    ·cases hj1;exact .beq rfl<|.hU rfl (zl [] 1 rfl)
    refine .n 3 rfl<|.gs 28 hj1 rfl (fun hj1=>?_) (fun hj1=>?_)
    ·refine .n 1 rfl<|.gOn rfl rfl<|.lb 0 0 rfl<|.n 3 rfl<|.gOn rfl rfl<|.bd hj1 fun x2 hx2 hj1=>.ix1 hx2 1 rfl fun b2 ob2=>.n 1 rfl<|.gOn rfl rfl<|.ld ob2 0 0 rfl ?_;cases hj1;exact .beq rfl<|.hU rfl (zl [] 2 rfl)
    cases hj1;exact .beq rfl<|.hU rfl (zl [] 1 rfl)
   refine .cb h1 rfl (fun h1=>?_) (fun h1=>?_)
   ·refine .abf [2] [] 1 rfl rfl ?_;cases h1;cases hd1 _ rfl
    have h:some _=some _:=h;cases h;exact .rv rfl rfl ⟨rfl,rfl⟩ zw
   refine .skip<|.blkN<|.thenN<|.pr [0,8,9,10] rfl<|.region ?_;cases h1;exact .be rfl<|.ag () hm1 rfl zw
  refine .xq rfl ?_;cases h1;cases hd1 _ rfl
  exact .thenN<|.hereI () () rfl trivial (zl [] 1 rfl)
 rintro o2 e2 ho;subst ho;have h:=unR h;refine .ae rfl ?_;cases h;exact .rv rfl rfl ⟨rfl,rfl⟩ zw
theorem zVj:Ent Tryz.prog 143:=en Tryz.func143 (by kernel_rfl)
noncomputable def sX (needs:(List zX)):Option Bool:=
 bif decide ((needs.length:Int)>16) then (some false) else (bnd (yE (τ:=Bool ⊕ Unit) (fun (s1:Int)=>bif decide (s1<(needs.length:Int)) then (bnd (elt needs s1) fun x1=>bnd ((bnd (uA x1.Component) fun r1=>bif !r1 then (some true) else (bnd (uA x1.On) fun r2=>bif !r2 then (some true) else (bif (x1.Component.toList==x1.On.toList) then (some true) else (bnd (vI x1.From) fun r3=>bif !r3 then (some true) else (bnd (vI x1.At) fun r4=>some (!r4))))):Option Bool)) fun o3=>bif o3 then (some (.done (.inl false))) else (some (.next (IntKind.wrap .i64 (s1+1))))) else (some (.done (.inr ())))) 0) fun o1=>vB o1 fun o2=>some true)
theorem zDV {needs A1 c1 r} (h:sX needs=some r):
    Fun Tryz.prog 143 [.slice A1 needs.length c1] [.ro (SlL zP A1 c1 needs)] (Val (.bool r)):=by
 refine Fun.intro Tryz.func143 rfl rfl rfl fun w R=>?_;refine .ab [0] rfl<|.seq<|.ab [0,7] rfl<|.cb h rfl (fun h=>?_) (fun h=>?_)
 ·refine .abf [2] [] 1 rfl rfl ?_;cases h;exact .rv rfl rfl ⟨rfl,rfl⟩ zw
 refine .sk<|.pr [0] rfl<|.seq<|.ab [8,9,10] rfl<|.bd h fun o1 hl1 h=>.cutJ 1 (fun (o2:Unit) (e2:Unit)=>[]) (fun o2 e2=>[]) rfl rfl (fun o2=>o1= .inr o2) ?_ ?_
 ·refine .block<|.loopQ hl1 0 (fun (s1:Int) (e1:Unit)=>[8,9, .s 10 (.int .i64 s1)]) (fun s1 e1=>[]) rfl rfl () (zb rfl) (fun _ w=>w) ?_;rintro s1 e1 st1 hm1 hd1 h1;refine .ae rfl<|.seq<|.cb h1 rfl (fun h1=>?_) (fun h1=>?_)
  ·refine .sk<|.pr [8,9,10] rfl<|.seq<|.block<|.seq<|.region<|.bd h1 fun x1 hx1 h1=>.ix1 hx1 0 rfl fun b1 ob1=>.ld ob1 0 0 rfl<|.alloc rfl rfl fun g1=>.sb 0 0 rfl<|.bf [4,8,9,10] [0] 1 rfl rfl<|.seq<|.bd h1 fun o3 hj1 h1=>.cu 1 [8,9,10, .s 42 (.bool o3)] [] rfl rfl ?_ ?_
   ·refine .region<|.p rfl rfl<|.lb 0 0 rfl<|.bd hj1 fun r1 hr1 hj1=>.cv [] (lA hr1) zIk rfl<|.n 2 rfl<|.gs 18 hj1 rfl (fun hj1=>?_) (fun hj1=>?_)
    ·cases hj1;exact .be rfl<|.hU rfl (zl [] 1 rfl)
    refine .n 1 rfl<|.gOn rfl rfl<|.lb 4 0 rfl<|.gOn rfl rfl<|.bd hj1 fun r2 hr2 hj1=>.cv [] (lA hr2) zIk rfl<|.n 3 rfl<|.gs 24 hj1 rfl (fun hj1=>?_) (fun hj1=>?_)
    ·cases hj1;exact .be rfl<|.hU rfl (zl [] 1 rfl)
    refine .n 1 rfl<|.gOn rfl rfl<|.lb 0 0 rfl<|.n 1 rfl<|.gOn rfl rfl<|.lb 4 0 rfl<|.n 3 rfl<|.gs 31 hj1 rfl (fun hj1=>?_) (fun hj1=>?_)
    ·cases hj1;exact .be rfl<|.hU rfl (zl [] 1 rfl)
    refine .n 1 rfl<|.gOn rfl rfl<|.lb 1 0 rfl<|.gOn rfl rfl<|.bd hj1 fun r3 hr3 hj1=>.cv [] (mD hr3) zIv rfl<|.n 3 rfl<|.gs 37 hj1 rfl (fun hj1=>?_) (fun hj1=>?_)
    ·cases hj1;exact .be rfl<|.hU rfl (zl [] 1 rfl)
    refine .n 1 rfl<|.gOn rfl rfl<|.lb 5 0 rfl<|.gOn rfl rfl<|.bd hj1 fun r4 hr4 hj1=>.cv [] (mD hr4) zIv rfl ?_;cases hj1;exact .be rfl<|.hU rfl (zl [] 1 rfl)
   refine .cb h1 rfl (fun h1=>?_) (fun h1=>?_)
   ·refine .abf [2] [] 1 rfl rfl ?_;cases h1;cases hd1 _ rfl
    have h:some _=some _:=h;cases h;exact .rv rfl rfl ⟨rfl,rfl⟩ zw
   refine .skip<|.blkN<|.thenN<|.pr [8,9,10] rfl<|.region ?_;cases h1;exact .be rfl<|.ag () hm1 rfl zw
  refine .xq rfl ?_;cases h1;cases hd1 _ rfl
  exact .thenN<|.hereI () () rfl trivial (zl [] 1 rfl)
 rintro o2 e2 ho;subst ho;have h:=unR h;refine .ae rfl ?_;cases h;exact .rv rfl rfl ⟨rfl,rfl⟩ zw
theorem zPz:Ent Tryz.prog 169:=en Tryz.func169 (by kernel_rfl)
noncomputable def qD (l_p0:(List zH)) (name:ByteArray):Option (zL × Bool):=
 bnd (yE (τ:=(zL × Bool) ⊕ Unit) (fun (s1:Int)=>bif decide (s1<(l_p0.length:Int)) then (bnd (elt l_p0 s1) fun x1=>bif (x1.Name.toList==name.toList) then (some (.done (.inl (x1.Version,true)))) else (some (.next (IntKind.wrap .i64 (s1+1))))) else (some (.done (.inr ())))) 0) fun o1=>vB o1 fun o2=>some ((⟨0,0,0⟩:zL),false)
theorem aD {l_p0 name A1 c1 r} (h:qD l_p0 name=some r):
    Fun Tryz.prog 169 [.slice A1 l_p0.length c1, .string name] [.ro (SlL zK A1 c1 l_p0)] (Val (.tuple #[.agg #[.int .i64 r.1.Major, .int .i64 r.1.Minor, .int .i64 r.1.Patch], .bool r.2])):=by
 refine Fun.intro Tryz.func169 rfl rfl rfl fun w R=>?_;refine .seq<|.region<|.alloc rfl rfl fun g1=>.b [0,1,4] rfl<|.seq<|.ab [1,4,8,9,10] rfl<|.bd h fun o1 hl1 h=>.cutJ 2 (fun (o2:Unit) (e2:Unit)=>[4]) (fun o2 e2=>[0]) rfl rfl (fun o2=>o1= .inr o2) ?_ ?_
 ·refine .block<|.loopQ hl1 0 (fun (s1:Int) (e1:Unit)=>[1,4,8,9, .s 10 (.int .i64 s1)]) (fun s1 e1=>[]) rfl rfl () (zb rfl) (fun _ w=>w) ?_;rintro s1 e1 st1 hm1 hd1 h1;refine .ae rfl<|.seq<|.cb h1 rfl (fun h1=>?_) (fun h1=>?_)
  ·refine .sk<|.pr [1,4,8,9,10] rfl<|.seq<|.block<|.seq<|.region<|.bd h1 fun x1 hx1 h1=>.ix1 hx1 1 rfl fun b1 ob1=>.ld ob1 0 0 rfl<|.alloc rfl rfl fun g2=>.sb 0 0 rfl<|.bf [1,4,7,8,9,10] [0] 1 rfl rfl<|.a 1 rfl<|.lb 0 0 rfl<|.b [1,4,7,8,9,10,17] rfl<|.cb h1 rfl (fun h1=>?_) (fun h1=>?_)
   ·refine .a 1 rfl<|.lb 1 0 rfl<|.sb 0 1 rfl<|.bf [4,5] [0] 2 rfl rfl ?_;cases h1;cases hd1 _ rfl
    have h:some _=some _:=h;cases h;exact .rt rfl Tryz.results169 (.cell rfl (.head _) rfl (.tmp rfl .nil)) rfl ⟨rfl,rfl⟩ (zl [] 1 rfl)
   refine .skip<|.blkN<|.thenN<|.pf [1,4,8,9,10] [] 1 rfl rfl<|.region ?_;cases h1;exact .be rfl<|.ag () hm1 rfl zw
  refine .xq rfl ?_;cases h1;cases hd1 _ rfl
  exact .thenN<|.hereI () () rfl (zb rfl) (zl [0] 1 rfl)
 rintro o2 e2 ho;subst ho;have h:=unR h;refine .a 1 rfl<|.sb 0 0 rfl<|.b [4,5] rfl ?_;cases h;exact .rt rfl Tryz.results169 (.cell rfl (.head _) rfl (.tmp rfl .nil)) rfl ⟨rfl,rfl⟩ (zl [] 1 rfl)
theorem zSk:Ent Tryz.prog 266:=en Tryz.func266 (by kernel_rfl)
noncomputable def pI (x_p0:Int):Option Bool:=
 some (x_p0 != x_p0)
theorem bC {x_p0 r} (h:pI x_p0=some r):
    Fun Tryz.prog 266 [.int .i64 x_p0] [] (Val (.bool r)):=by
 unfold pI at h
 refine Fun.intro Tryz.func266 rfl rfl rfl fun w R=>?_;refine .ab [0] rfl<|.ab [2] rfl ?_;cases h;exact .rv rfl rfl ⟨rfl,rfl⟩ zw
theorem zMr:Ent Tryz.prog 256:=en Tryz.func256 (by kernel_rfl)
noncomputable def tI (x_p0:Int) (y_p1:Int):Option Int:=
 bnd (pI x_p0) fun r1=>bnd (pI y_p1) fun r2=>bif r1 then (bif r2 then (some 0) else (some (-1))) else (bif r2 then (some 1) else (bif decide (x_p0<y_p1) then (some (-1)) else (bif decide (x_p0>y_p1) then (some 1) else (some 0))))
theorem kB {x_p0 y_p1 r} (h:tI x_p0 y_p1=some r):
    Fun Tryz.prog 256 [.int .i64 x_p0, .int .i64 y_p1] [] (Val (.int .i64 r)):=by
 refine Fun.intro Tryz.func256 rfl rfl rfl fun w R=>?_;refine .ab [0,1] rfl<|.a 1 rfl<|.bd h fun r1 hr1 h=>.cv [] (bC hr1) zSk rfl<|.b [0,1,5] rfl<|.a 1 rfl<|.bd h fun r2 hr2 h=>.cv [] (bC hr2) zSk rfl<|.b [0,1,5,6] rfl<|.seq<|.ab [0,1,6,11] rfl<|.cb h rfl (fun h=>?_) (fun h=>?_)
 ·refine .seq<|.ab [12] rfl<|.cb h rfl (fun h=>?_) (fun h=>?_)
  ·refine .ab [4] rfl ?_;cases h;exact .rv rfl rfl ⟨rfl,rfl⟩ zw
  refine .sk<|.pr [] rfl<|.ae rfl ?_;cases h;exact .rv rfl rfl ⟨rfl,rfl⟩ zw
 refine .sk<|.pr [0,1,6] rfl<|.seq<|.ab [0,1,13] rfl<|.cb h rfl (fun h=>?_) (fun h=>?_)
 ·refine .ab [4] rfl ?_;cases h;exact .rv rfl rfl ⟨rfl,rfl⟩ zw
 refine .sk<|.pr [0,1] rfl<|.seq<|.ab [0,1,16] rfl<|.cb h rfl (fun h=>?_) (fun h=>?_)
 ·refine .ab [4] rfl ?_;cases h;exact .rv rfl rfl ⟨rfl,rfl⟩ zw
 refine .sk<|.pr [0,1] rfl<|.seq<|.ab [19] rfl<|.cb h rfl (fun h=>?_) (fun h=>?_)
 ·refine .ab [4] rfl ?_;cases h;exact .rv rfl rfl ⟨rfl,rfl⟩ zw
 refine .sk<|.pr [] rfl<|.ae rfl ?_;cases h;exact .rv rfl rfl ⟨rfl,rfl⟩ zw
theorem zVG:Ent Tryz.prog 233:=en Tryz.func233 (by kernel_rfl)
noncomputable def pU (a_p0:(zGy Int)) (b_p1:(zGy Int)):Option Int:=
 bnd (tI a_p0.e0 b_p1.e0) fun r1=>bif (r1 != 0) then (some r1) else (bnd (tI a_p0.e1 b_p1.e1) fun r2=>bif (r2 != 0) then (some r2) else (bnd (tI a_p0.e2 b_p1.e2) fun r3=>bif (r3 != 0) then (some r3) else (some 0)))
theorem bH {a_p0 b_p1 r} (h:pU a_p0 b_p1=some r):
    Fun Tryz.prog 233 [.agg #[.int .i64 a_p0.e0, .int .i64 a_p0.e1, .int .i64 a_p0.e2], .agg #[.int .i64 b_p1.e0, .int .i64 b_p1.e1, .int .i64 b_p1.e2]] [] (Val (.int .i64 r)):=by
 refine Fun.intro Tryz.func233 rfl rfl rfl fun w R=>?_;refine .seq<|.region<|.box rfl rfl fun g1=>.box rfl rfl fun g2=>.b [2,3] rfl<|.seq<|.ae rfl<|.block<|.rounds 9<|.round<|.ae rfl<|.seq<|.condT rfl<|.sk<|.pr [2,3,7] rfl<|.seq<|.block<|.ab [2,3,5,7] rfl<|.seq<|.regionF mixed (by kernel_rfl)<|.n 2 rfl<|.lb 0 1 rfl<|.n 2 rfl<|.lb 0 0 rfl<|.bd h fun r1 hr1 h=>.cv [] (kB hr1) zMr rfl<|.bq [2,3,6,7] rfl<|.ab [2,3,6,7,18] rfl<|.cb h rfl (fun h=>?_) (fun h=>?_)
 ·refine .abf [4] [] 2 rfl rfl ?_;cases h;exact .rv rfl rfl ⟨rfl,rfl⟩ zw
 refine .skip<|.blkN<|.thenN<|.pr [2,3,7] rfl<|.region<|.be rfl<|.round<|.pr [2,3,7] rfl<|.ae rfl<|.seq<|.condT rfl<|.sk<|.pr [2,3,7] rfl<|.seq<|.block<|.ab [2,3,5,7] rfl<|.seq<|.regionF mixed (by kernel_rfl)<|.n 2 rfl<|.lb 1 1 rfl<|.n 2 rfl<|.lb 1 0 rfl<|.bd h fun r2 hr2 h=>.cv [] (kB hr2) zMr rfl<|.bq [2,3,6,7] rfl<|.ab [2,3,6,7,18] rfl<|.cb h rfl (fun h=>?_) (fun h=>?_)
 ·refine .abf [4] [] 2 rfl rfl ?_;cases h;exact .rv rfl rfl ⟨rfl,rfl⟩ zw
 refine .skip<|.blkN<|.thenN<|.pr [2,3,7] rfl<|.region<|.be rfl<|.round<|.pr [2,3,7] rfl<|.ae rfl<|.seq<|.condT rfl<|.sk<|.pr [2,3,7] rfl<|.seq<|.block<|.ab [2,3,5,7] rfl<|.seq<|.regionF mixed (by kernel_rfl)<|.n 2 rfl<|.lb 2 1 rfl<|.n 2 rfl<|.lb 2 0 rfl<|.bd h fun r3 hr3 h=>.cv [] (kB hr3) zMr rfl<|.bq [2,3,6,7] rfl<|.ab [2,3,6,7,18] rfl<|.cb h rfl (fun h=>?_) (fun h=>?_)
 ·refine .abf [4] [] 2 rfl rfl ?_;cases h;exact .rv rfl rfl ⟨rfl,rfl⟩ zw
 refine .skip<|.blkN<|.thenN<|.pr [2,3,7] rfl<|.region<|.be rfl<|.round<|.pr [2,3,7] rfl<|.ae rfl<|.seq<|.condF rfl<|.xq rfl<|.thenN<|.pf [] [] 2 rfl rfl<|.ae rfl ?_;cases h;exact .rv rfl rfl ⟨rfl,rfl⟩ zw
theorem zQT:Ent Tryz.prog 170:=en Tryz.func170 (by kernel_rfl)
noncomputable def rE (a_p0:zL) (b_p1:zL):Option Int:=
 bnd (vC a_p0) fun r1=>bnd (vC b_p1) fun r2=>bnd (pU r1 r2) fun r3=>some r3
theorem fW {a_p0 b_p1 r} (h:rE a_p0 b_p1=some r):
    Fun Tryz.prog 170 [.agg #[.int .i64 a_p0.Major, .int .i64 a_p0.Minor, .int .i64 a_p0.Patch], .agg #[.int .i64 b_p1.Major, .int .i64 b_p1.Minor, .int .i64 b_p1.Patch]] [] (Val (.int .i64 r)):=by
 refine Fun.intro Tryz.func170 rfl rfl rfl fun w R=>?_;refine .seq<|.region<|.box rfl rfl fun g1=>.box rfl rfl fun g2=>.b [2,3] rfl<|.seq<|.regionF mixed (by kernel_rfl)<|.lb 0 1 rfl<|.bd h fun r1 hr1 h=>.cv [] (lV hr1) zMn rfl<|.lb 0 0 rfl<|.bd h fun r2 hr2 h=>.cv [] (lV hr2) zMn rfl<|.bd h fun r3 hr3 h=>.cv [] (bH hr3) zVG rfl<|.beq rfl<|.pf [4] [] 2 rfl rfl ?_;cases h;exact .rv rfl rfl ⟨rfl,rfl⟩ zw
theorem zXb:Ent Tryz.prog 92:=en Tryz.func92 (by kernel_rfl)
noncomputable def pL (l_p0:(List zH)) (n_p1:zX):Option Bool:=
 bnd (qD l_p0 n_p1.Component) fun r1=>bnd ((bif !r1.2 then (some true) else (bnd (rE r1.1 n_p1.From) fun r2=>some (decide (r2<0))):Option Bool)) fun o1=>bif o1 then (some true) else (bnd (qD l_p0 n_p1.On) fun r3=>bnd ((bif r3.2 then (bnd (rE r3.1 n_p1.At) fun r4=>some (decide (r4≥0))) else (some false):Option Bool)) fun o2=>some o2)
theorem zGq {l_p0 n_p1 A1 c1 r} (h:pL l_p0 n_p1=some r):
    Fun Tryz.prog 92 [.slice A1 l_p0.length c1, .agg (zCM n_p1).toArray] [.ro (SlL zK A1 c1 l_p0)] (Val (.bool r)):=by
 refine Fun.intro Tryz.func92 rfl rfl rfl fun w R=>?_;refine .seq<|.region<|.box rfl rfl fun g1=>.b [0,3] rfl<|.a 2 rfl<|.lb 0 0 rfl<|.bd h fun r1 hr1 h=>.cv [1] (aD hr1) zPz rfl<|.n 3 rfl<|.alloc rfl rfl fun g2=>.sb 0 0 rfl<|.b [0,3,5,6] rfl<|.seq<|.seq<|.bd h fun o1 hj1 h=>.cu 1 [0,3, .s 23 (.bool o1)] [] rfl rfl ?_ ?_
 ·refine .region<|.n 3 rfl<|.gs 17 hj1 rfl (fun hj1=>?_) (fun hj1=>?_)
  ·cases hj1;exact .be rfl<|.hU rfl (zl [] 1 rfl)
  refine .gOn rfl rfl<|.lb 0 0 rfl<|.n 1 rfl<|.gOn rfl rfl<|.lb 1 1 rfl<|.gOn rfl rfl<|.bd hj1 fun r2 hr2 hj1=>.cv [] (fW hr2) zQT rfl ?_;cases hj1;exact .be rfl<|.hU rfl (zl [] 1 rfl)
 refine .cb h rfl (fun h=>?_) (fun h=>?_)
 ·refine .abf [4] [] 2 rfl rfl ?_;cases h;exact .rv rfl rfl ⟨rfl,rfl⟩ zw
 refine .sk<|.pr [0,3] rfl<|.a 2 rfl<|.lb 4 0 rfl<|.bd h fun r3 hr3 h=>.cv [1] (aD hr3) zPz rfl<|.n 3 rfl<|.alloc rfl rfl fun g3=>.sb 0 0 rfl<|.bf [3,6,7] [0,0] 1 rfl rfl<|.seq<|.bd h fun o2 hj2 h=>.cu 2 [.s 4 (.bool o2)] [] rfl rfl ?_ ?_
 ·refine .region<|.n 2 rfl<|.gs 32 hj2 rfl (fun hj2=>?_) (fun hj2=>?_)
  ·refine .gOn rfl rfl<|.lb 0 0 rfl<|.n 1 rfl<|.gOn rfl rfl<|.lb 5 1 rfl<|.gOn rfl rfl<|.bd hj2 fun r4 hr4 hj2=>.cv [] (fW hr4) zQT rfl ?_;cases hj2;exact .be rfl<|.hU rfl (zl [] 2 rfl)
  cases hj2;exact .be rfl<|.hU rfl (zl [] 2 rfl)
 cases h;exact .rv rfl rfl ⟨rfl,rfl⟩ zw
theorem zDL:Ent Tryz.prog 62:=en Tryz.func62 (by kernel_rfl)
noncomputable def xN (l_p0:(List zH)) (needs:(List zX)):Option (Int × Int):=
 bnd (vQ l_p0) fun r1=>bif !r1 then (some (0,1)) else (bnd (sX needs) fun r2=>bif !r2 then (some (0,2)) else (bnd (yE (τ:=(Int × Int) ⊕ Unit) (fun (s1:Int)=>bif decide (s1<(needs.length:Int)) then (bnd (elt needs s1) fun x1=>bnd (pL l_p0 x1) fun r3=>bif !r3 then (some (.done (.inl (s1,0)))) else (some (.next (IntKind.wrap .i64 (s1+1))))) else (some (.done (.inr ())))) 0) fun o1=>vB o1 fun o2=>some ((-1),0)))
theorem uG {l_p0 needs A1 c1 A2 c2 r} (h:xN l_p0 needs=some r):
    Fun Tryz.prog 62 [.slice A1 l_p0.length c1, .slice A2 needs.length c2] [.ro (SlL zK A1 c1 l_p0), .ro (SlL zP A2 c2 needs)] (Val (.tuple #[.int .i64 r.1, .int .i64 r.2])):=by
 refine Fun.intro Tryz.func62 rfl rfl rfl fun w R=>?_;refine .ab [0,1] rfl<|.seq<|.a 1 rfl<|.bd h fun r1 hr1 h=>.cv [0] (aL hr1) zVo rfl<|.b [0,1,10] rfl<|.cb h rfl (fun h=>?_) (fun h=>?_)
 ·refine .abf [4,5] [] 2 rfl rfl ?_;cases h;exact .rv rfl rfl ⟨rfl,rfl⟩ zw
 refine .sk<|.pr [0,1] rfl<|.seq<|.a 1 rfl<|.bd h fun r2 hr2 h=>.cv [1] (zDV hr2) zVj rfl<|.b [0,1,13] rfl<|.cb h rfl (fun h=>?_) (fun h=>?_)
 ·refine .abf [4,5] [] 2 rfl rfl ?_;cases h;exact .rv rfl rfl ⟨rfl,rfl⟩ zw
 refine .sk<|.pr [0,1] rfl<|.seq<|.ab [0,14,15,16] rfl<|.bd h fun o1 hl1 h=>.cutJ 2 (fun (o2:Unit) (e2:Unit)=>[]) (fun o2 e2=>[]) rfl rfl (fun o2=>o1= .inr o2) ?_ ?_
 ·refine .block<|.loopQ hl1 0 (fun (s1:Int) (e1:Unit)=>[0,14,15, .s 16 (.int .i64 s1)]) (fun s1 e1=>[]) rfl rfl () (zb rfl) (fun _ w=>w) ?_;rintro s1 e1 st1 hm1 hd1 h1;refine .ae rfl<|.seq<|.cb h1 rfl (fun h1=>?_) (fun h1=>?_)
  ·refine .sk<|.pr [0,14,15,16] rfl<|.seq<|.block<|.a 1 rfl<|.bd h1 fun x1 hx1 h1=>.ix1 hx1 1 rfl fun b1 ob1=>.ld ob1 0 0 rfl<|.alloc rfl rfl fun g1=>.p rfl rfl<|.sb 0 0 rfl<|.bf [0,6,7,14,15,16] [0] 1 rfl rfl<|.a 1 rfl<|.lb 0 0 rfl<|.bd h1 fun r3 hr3 h1=>.cv [1] (zGq hr3) zXb rfl<|.bf [0,6,14,15,16,24] [] 1 rfl rfl<|.cb h1 rfl (fun h1=>?_) (fun h1=>?_)
   ·refine .abf [4,5] [] 2 rfl rfl ?_;cases h1;cases hd1 _ rfl
    have h:some _=some _:=h;cases h;exact .rv rfl rfl ⟨rfl,rfl⟩ zw
   refine .skip<|.blkN<|.thenN<|.pr [0,14,15,16] rfl<|.region ?_;cases h1;exact .be rfl<|.ag () hm1 rfl zw
  refine .xq rfl ?_;cases h1;cases hd1 _ rfl
  exact .thenN<|.hereI () () rfl trivial (zl [] 2 rfl)
 rintro o2 e2 ho;subst ho;have h:=unR h;refine .ae rfl ?_;cases h;exact .rv rfl rfl ⟨rfl,rfl⟩ zw
theorem zQl:Ent Tryz.prog 63:=en Tryz.func63 (by kernel_rfl)
noncomputable def yZ (s_p0:(List zX)):Option (List zX):=
 bnd (app 80 ([]) s_p0) fun l1=>some l1
theorem vW {s_p0 A1 c1 r} (h:yZ s_p0=some r):
    Fun Tryz.prog 63 [.slice A1 s_p0.length c1] [.ro (SlL zP A1 c1 s_p0)] (fun v F=>∃ A2 c2,v= .slice A2 r.length c2∧F= [.res (zM zP 123 A2 c2 r)]):=by
 unfold yZ at h
 refine Fun.intro Tryz.func63 rfl rfl rfl fun w R=>?_
 rcases A1 with _ | ad
 ·refine .fact (φ:=s_p0= []) (fun w hf=>(hf.ro (r:=SlL zP none c1 s_p0) (.head _)).2.2.1 rfl) fun hs=>?_;subst hs;have h:(some ([]):Option (List zX))=some r:=by simpa [app,bnd] using h
  refine .ab [0] rfl<|.seq<|.ab [0,4] rfl<|.condT rfl<|.abf [2] [] 1 rfl rfl<|.asrt (fun _ w=>w.nilL zP 123) ?_;cases h;exact .rv rfl rfl ⟨none,0,rfl,rfl⟩ zw
 refine .ab [0] rfl<|.seq<|.ab [0,4] rfl<|.condF rfl<|.sk<|.pr [0] rfl<|.seq<|.region<|.bS rfl fun g1=>.p rfl rfl<|.asrt (fun _ w=>w.litL (E:=zP) (e:=123) [] rfl rfl)<|.bd h fun l1 hl1 h=>.app (E:=zP) hl1 rfl rfl rfl .z rfl rfl rfl rfl rfl rfl rfl rfl (iV (.tail _ (.head _))) rfl rfl fun A2 c2=>.bf [2] [0] 1 rfl rfl ?_;cases h;exact .rv rfl rfl ⟨A2,c2,rfl,rfl⟩ zw
theorem zWZ:Ent Tryz.prog 64:=en Tryz.func64 (by kernel_rfl)
noncomputable def nZ (d_p0:zB):Option zB:=
 bnd (zQ d_p0.Slots.e0.Image.Data) fun r1=>bnd (zQ d_p0.Slots.e1.Image.Data) fun r2=>some (⟨d_p0.Name,(⟨(⟨(⟨d_p0.Slots.e0.Image.Name,d_p0.Slots.e0.Image.Version,r1⟩:zJ),d_p0.Slots.e0.Sum⟩:yF),(⟨(⟨d_p0.Slots.e1.Image.Name,d_p0.Slots.e1.Image.Version,r2⟩:zJ),d_p0.Slots.e1.Sum⟩:yF)⟩:(qN yF)),d_p0.Active,d_p0.Running,d_p0.Trial⟩:zB)
theorem zDU {d_p0 A1 c1 A2 c2 r} (h:nZ d_p0=some r):
    Fun Tryz.prog 64 [.agg (zO d_p0 A1 c1 A2 c2).toArray] [.ro (SlL eu8 A1 c1 d_p0.Slots.e0.Image.Data), .ro (SlL eu8 A2 c2 d_p0.Slots.e1.Image.Data)] (fun v F=>∃ A3 c3 A4 c4,v= .agg (zO r A3 c3 A4 c4).toArray∧F= [.ro (SlL eu8 A3 c3 r.Slots.e0.Image.Data), .ro (SlL eu8 A4 c4 r.Slots.e1.Image.Data)]):=by
 refine Fun.intro Tryz.func64 rfl rfl rfl fun w R=>?_;refine .seq<|.region<|.box rfl rfl fun g1=>.alloc rfl rfl fun g2=>.b [1,2] rfl<|.seq<|.ae rfl<|.block<|.rounds 9<|.round<|.ae rfl<|.seq<|.condT rfl<|.sk<|.pr [1,2,4] rfl<|.seq<|.block<|.ab [1,2,3,4] rfl<|.region<|.n 6 rfl<|.lb 5 1 rfl<|.bd h fun r1 hr1 h=>.cr 5 [2] [] 0 (yK hr1) bB rfl fun A3 c3=>.n 4 rfl<|.sb 5 2 rfl<|.done<|.blkN<|.thenN<|.pf [1,2,4] [0,0,0] 1 rfl rfl<|.region<|.be rfl<|.round<|.pr [1,2,4] rfl<|.ae rfl<|.seq<|.condT rfl<|.sk<|.pr [1,2,4] rfl<|.seq<|.block<|.ab [1,2,3,4] rfl<|.region<|.n 6 rfl<|.lb 11 0 rfl<|.bd h fun r2 hr2 h=>.cr 5 [3] [] 0 (yK hr2) bB rfl fun A4 c4=>.n 4 rfl<|.sb 11 1 rfl<|.done<|.blkN<|.thenN<|.pf [1,2,4] [0,0,0,0] 1 rfl rfl<|.region<|.be rfl<|.round<|.pr [1,2,4] rfl<|.ae rfl<|.seq<|.condF rfl<|.xq rfl<|.thenN<|.pr [1,2] rfl<|.seq<|.region<|.lb 0 0 rfl<|.sb 0 3 rfl<|.bf [2] [0] 1 rfl rfl<|.asrt (fun _ w=>(w.sl [2] 0 rfl).meltL)<|.asrt (fun _ w=>(w.sl [2] 0 rfl).meltL) ?_;cases h;exact .rt rfl Tryz.results64 (.cell rfl (.tail _ (.tail _ (.head _))) rfl .nil) rfl ⟨A3,c3,A4,c4,rfl,rfl⟩ (zk 2 3 [1,0] [] 0 rfl)
theorem zFU:Ent Tryz.prog 94:=en Tryz.func94 (by kernel_rfl)
noncomputable def uQ (d_p0:zB):Option zB:=
 bnd (qV d_p0.Slots.e0.Image) fun r1=>bnd (qV d_p0.Slots.e1.Image) fun r2=>some (⟨d_p0.Name,(⟨(⟨r1,d_p0.Slots.e0.Sum⟩:yF),(⟨r2,d_p0.Slots.e1.Sum⟩:yF)⟩:(qN yF)),d_p0.Active,d_p0.Running,d_p0.Trial⟩:zB)
theorem pO {d_p0 A1 c1 A2 c2 r} (h:uQ d_p0=some r):
    Fun Tryz.prog 94 [.agg (zO d_p0 A1 c1 A2 c2).toArray] [.ro (SlL eu8 A1 c1 d_p0.Slots.e0.Image.Data), .ro (SlL eu8 A2 c2 d_p0.Slots.e1.Image.Data)] (fun v F=>∃ A3 c3 A4 c4,v= .agg (zO r A3 c3 A4 c4).toArray∧F= [.ro (SlL eu8 A3 c3 r.Slots.e0.Image.Data), .ro (SlL eu8 A4 c4 r.Slots.e1.Image.Data)]):=by
 refine Fun.intro Tryz.func94 rfl rfl rfl fun w R=>?_;refine .seq<|.region<|.box rfl rfl fun g1=>.alloc rfl rfl fun g2=>.b [1,2] rfl<|.seq<|.ae rfl<|.block<|.rounds 9<|.round<|.ae rfl<|.seq<|.condT rfl<|.sk<|.pr [1,2,4] rfl<|.seq<|.block<|.ab [1,2,3,4] rfl<|.region<|.n 5 rfl<|.lb 1 1 rfl<|.bd h fun r1 hr1 h=>.cr 5 [2] [] 0 (iY hr1) zDc rfl fun A3 c3=>.n 3 rfl<|.sb 1 2 rfl<|.done<|.blkN<|.thenN<|.pf [1,2,4] [0,0,0] 1 rfl rfl<|.region<|.be rfl<|.round<|.pr [1,2,4] rfl<|.ae rfl<|.seq<|.condT rfl<|.sk<|.pr [1,2,4] rfl<|.seq<|.block<|.ab [1,2,3,4] rfl<|.region<|.n 5 rfl<|.lb 7 0 rfl<|.bd h fun r2 hr2 h=>.cr 5 [3] [] 0 (iY hr2) zDc rfl fun A4 c4=>.n 3 rfl<|.sb 7 1 rfl<|.done<|.blkN<|.thenN<|.pf [1,2,4] [0,0,0,0] 1 rfl rfl<|.region<|.be rfl<|.round<|.pr [1,2,4] rfl<|.ae rfl<|.seq<|.condF rfl<|.xq rfl<|.thenN<|.pr [1,2] rfl<|.seq<|.region<|.lb 0 0 rfl<|.sb 0 3 rfl<|.bf [2] [0] 1 rfl rfl ?_;cases h;exact .rt rfl Tryz.results94 (.cell rfl (.head _) rfl .nil) rfl ⟨A3,c3,A4,c4,rfl,rfl⟩ (zk 2 3 [2,1] [] 0 rfl)
theorem zKb:Ent Tryz.prog 35:=en Tryz.func35 (by kernel_rfl)
noncomputable def mW (d_p0:zB):Option zB:=
 bnd (tU d_p0) fun r1=>bif !r1 then (some (⟨⟨#[]⟩,(⟨(⟨(⟨⟨#[]⟩,(⟨0,0,0⟩:zL), []⟩:zJ),0⟩:yF),(⟨(⟨⟨#[]⟩,(⟨0,0,0⟩:zL), []⟩:zJ),0⟩:yF)⟩:(qN yF)),0,0,false⟩:zB)) else (bnd (uQ d_p0) fun r2=>bif r2.Trial then (some (⟨r2.Name,r2.Slots,r2.Active,IntKind.wrap .i64 (1 - r2.Active),false⟩:zB)) else (some (⟨r2.Name,r2.Slots,r2.Active,r2.Active,r2.Trial⟩:zB)))
theorem fL {d_p0 A1 c1 A2 c2 r} (h:mW d_p0=some r):
    Fun Tryz.prog 35 [.agg (zO d_p0 A1 c1 A2 c2).toArray] [.ro (SlL eu8 A1 c1 d_p0.Slots.e0.Image.Data), .ro (SlL eu8 A2 c2 d_p0.Slots.e1.Image.Data)] (fun v F=>∃ A3 c3 A4 c4,v= .agg (zO r A3 c3 A4 c4).toArray∧F= [.ro (SlL eu8 A3 c3 r.Slots.e0.Image.Data), .ro (SlL eu8 A4 c4 r.Slots.e1.Image.Data)]):=by
 refine Fun.intro Tryz.func35 rfl rfl rfl fun w R=>?_;refine .seq<|.region<|.box rfl rfl fun g1=>.alloc rfl rfl fun g2=>.b [1,2] rfl<|.seq<|.seq<|.region<|.lb 0 1 rfl<|.bd h fun r1 hr1 h=>.cv [2,3] (oW hr1) zHo rfl<|.b [1,2,6] rfl<|.cb h rfl (fun h=>?_) (fun h=>?_)
 ·refine .a 1 rfl<|.sb 0 0 rfl<|.bf [2] [0] 3 rfl rfl<|.asrt (fun _ w=>w.nilSl (cod eu8))<|.asrt (fun _ w=>w.nilSl (cod eu8)) ?_;cases h;exact .rt rfl Tryz.results35 (.cell rfl (.tail _ (.tail _ (.head _))) rfl .nil) rfl ⟨none,0,none,0,rfl,rfl⟩ (zk 2 3 [0,0] [] 0 rfl)
 refine .sk<|.pr [1,2] rfl<|.seq<|.region<|.lb 0 1 rfl<|.bd h fun r2 hr2 h=>.ct 6 [2,3] [] 0 (pO hr2) zFU rfl fun A3 c3 A4 c4=>.alloc rfl rfl fun g3=>.sb 0 0 rfl<|.bf [2,3] [0,0,0,0] 3 rfl rfl<|.a 1 rfl<|.lb 13 0 rfl<|.p rfl rfl<|.sb 14 0 rfl<|.b [2,3] rfl<|.seq<|.a 1 rfl<|.lb 15 0 rfl<|.b [2,3,14] rfl<|.cb h rfl (fun h=>?_) (fun h=>?_)
 ·refine .region<|.p rfl rfl<|.lb 13 0 rfl<|.n 2 rfl<|.sb 14 0 rfl<|.p rfl rfl<|.sb 15 0 rfl<|.b [2,3] rfl<|.seq<|.region<|.lb 0 0 rfl<|.sb 0 3 rfl<|.bf [2] [0] 1 rfl rfl ?_;cases h;exact .rt rfl Tryz.results35 (.cell rfl (.head _) rfl .nil) rfl ⟨A3,c3,A4,c4,rfl,rfl⟩ (zk 2 3 [1,2] [] 0 rfl)
 refine .sk<|.pr [2,3] rfl<|.seq<|.region<|.lb 0 0 rfl<|.sb 0 3 rfl<|.bf [2] [0] 1 rfl rfl ?_;cases h;exact .rt rfl Tryz.results35 (.cell rfl (.head _) rfl .nil) rfl ⟨A3,c3,A4,c4,rfl,rfl⟩ (zk 2 3 [1,2] [] 0 rfl)
theorem zWG:Ent Tryz.prog 65:=en Tryz.func65 (by kernel_rfl)
noncomputable def uY (s_p0:zD) (key:Int):Option ((List Int) × Bool):=
 bnd (zQ ((vJ (zZ .u8).eq (s_p0.all.getD []) key).getD [])) fun r1=>some (r1,(vJ (zZ .u8).eq (s_p0.all.getD []) key).isSome)
theorem aY {s_p0 key M1 gb1 gb2 r} (h:uY s_p0 key=some r):
    Fun Tryz.prog 65 [.pointer (some ⟨gb1,0,none⟩), .int .u8 key] [.res (Box gb1 135 (zN s_p0 gb2 M1)), .res (yO (zZ .u8) (cod eu8) M1 s_p0.all)] (fun v F=>∃ A1 c1,v= .tuple #[.slice A1 r.1.length c1, .bool r.2]∧F= [.res (Box gb1 135 (zN s_p0 gb2 M1)), .res (yO (zZ .u8) (cod eu8) M1 s_p0.all), .res (zM eu8 5 A1 c1 r.1)]):=by
 refine Fun.intro Tryz.func65 rfl rfl rfl fun w R=>?_;refine .ab [0,1] rfl<|.a 3 rfl<|.lb 4 0 rfl<|.p rfl rfl<|.lookupV (K:=(zZ .u8)) (E:=(cod eu8)) key rfl rfl rfl (.tail _ (.head _)) rfl rfl rfl rfl rfl rfl fun A1 c1=>.b [6,7] rfl<|.a 1 rfl<|.bd h fun r1 hr1 h=>.cr 4 [0] [] 0 (yK hr1) bB rfl fun A2 c2=>.bf [4,5] [0] 1 rfl rfl ?_;cases h;exact .rv rfl rfl ⟨A2,c2,rfl,rfl⟩ (zl [1,1] 0 rfl)
theorem zVW:Ent Tryz.prog 224:=en Tryz.func224 (by kernel_rfl)
noncomputable def mM (s_p0:(List Int)) (v_p1:Int):Option Int:=
 bnd (yE (τ:=Int ⊕ Unit) (fun (s1:Int)=>bif decide (s1<(s_p0.length:Int)) then (bnd (elt s_p0 s1) fun x1=>bif (v_p1==x1) then (some (.done (.inl s1))) else (some (.next (IntKind.wrap .i64 (s1+1))))) else (some (.done (.inr ())))) 0) fun o1=>vB o1 fun o2=>some (-1)
theorem dH {s_p0 v_p1 A1 c1 r} (h:mM s_p0 v_p1=some r):
    Fun Tryz.prog 224 [.slice A1 s_p0.length c1, .int .i64 v_p1] [.ro (SlL yC A1 c1 s_p0)] (Val (.int .i64 r)):=by
 refine Fun.intro Tryz.func224 rfl rfl rfl fun w R=>?_;refine .ab [0,1] rfl<|.seq<|.ab [0,1,7,8] rfl<|.bd h fun o1 hl1 h=>.cutJ 1 (fun (o2:Unit) (e2:Unit)=>[]) (fun o2 e2=>[]) rfl rfl (fun o2=>o1= .inr o2) ?_ ?_
 ·refine .block<|.loopQ hl1 0 (fun (s1:Int) (e1:Unit)=>[0,1,7, .s 8 (.int .i64 s1)]) (fun s1 e1=>[]) rfl rfl () (zb rfl) (fun _ w=>w) ?_;rintro s1 e1 st1 hm1 hd1 h1;refine .ae rfl<|.seq<|.cb h1 rfl (fun h1=>?_) (fun h1=>?_)
  ·refine .sk<|.pr [0,1,7,8] rfl<|.seq<|.block<|.ab [0,1,5,7,8] rfl<|.a 3 rfl<|.bd h1 fun x1 hx1 h1=>.ix1 hx1 0 rfl fun b1 ob1=>.ld ob1 0 0 rfl<|.bf [0,1,5,7,8,16] [] 1 rfl rfl<|.cb h1 rfl (fun h1=>?_) (fun h1=>?_)
   ·refine .abf [4] [] 1 rfl rfl ?_;cases h1;cases hd1 _ rfl
    have h:some _=some _:=h;cases h;exact .rv rfl rfl ⟨rfl,rfl⟩ zw
   refine .skip<|.blkN<|.thenN<|.pr [0,1,7,8] rfl<|.region ?_;cases h1;exact .be rfl<|.ag () hm1 rfl zw
  refine .xq rfl ?_;cases h1;cases hd1 _ rfl
  exact .thenN<|.hereI () () rfl trivial (zl [] 1 rfl)
 rintro o2 e2 ho;subst ho;have h:=unR h;refine .ae rfl ?_;cases h;exact .rv rfl rfl ⟨rfl,rfl⟩ zw
theorem zVc:Ent Tryz.prog 144:=en Tryz.func144 (by kernel_rfl)
noncomputable def oG (s_p0:(List Int)) (v_p1:Int):Option Bool:=
 bnd (mM s_p0 v_p1) fun r1=>some (decide (r1≥0))
theorem gU {s_p0 v_p1 A1 c1 r} (h:oG s_p0 v_p1=some r):
    Fun Tryz.prog 144 [.slice A1 s_p0.length c1, .int .i64 v_p1] [.ro (SlL yC A1 c1 s_p0)] (Val (.bool r)):=by
 refine Fun.intro Tryz.func144 rfl rfl rfl fun w R=>?_;refine .ab [0,1] rfl<|.a 2 rfl<|.bd h fun r1 hr1 h=>.cv [0] (dH hr1) zVW rfl<|.bf [4] [] 1 rfl rfl ?_;cases h;exact .rv rfl rfl ⟨rfl,rfl⟩ zw
theorem zWV:Ent Tryz.prog 66:=en Tryz.func66 (by kernel_rfl)
noncomputable def nK (a_p0:zC) (journal:(List Int)):Option (zC × Bool):=
 bif decide ((journal.length:Int)<2) then (some (a_p0,false)) else (bnd (elt journal 0) fun x1=>bnd (elt journal 1) fun x2=>bif !((IntKind.wrap .i64 x1)==2||((IntKind.wrap .i64 x1)==3||false)) then (some ((⟨a_p0.store,a_p0.devices,a_p0.needs,IntKind.wrap .i64 x1,a_p0.load,x2,a_p0.order⟩:zC),false)) else (bnd (sub journal 2 (journal.length:Int)) fun l1=>bnd (yE (τ:=(zC × Bool) ⊕ List Int) (fun (s1:Int × List Int)=>bif decide (s1.1<(l1.length:Int)) then (bnd (elt l1 s1.1) fun x3=>bnd ((bif decide ((IntKind.wrap .i64 x3)≥(a_p0.devices.length:Int)) then (some true) else (bnd (oG s1.2 (IntKind.wrap .i64 x3)) fun r1=>some r1):Option Bool)) fun o3=>bif o3 then (some (.done (.inl ((⟨a_p0.store,a_p0.devices,a_p0.needs,IntKind.wrap .i64 x1,a_p0.load,x2,s1.2⟩:zC),false)))) else (bnd (app 8 s1.2 [IntKind.wrap .i64 x3]) fun l2=>some (.next (IntKind.wrap .i64 (s1.1+1),l2)))) else (some (.done (.inr s1.2)))) (0,a_p0.order)) fun o1=>vB o1 fun o2=>some ((⟨a_p0.store,a_p0.devices,a_p0.needs,IntKind.wrap .i64 x1,a_p0.load,x2,o2⟩:zC),true)))
theorem zAy {a_p0 journal A1 c1 A2 c2 A3 c3 A4 c4 A5 c5 A6 c6 gb1 gb2 r} (h:nK a_p0 journal=some r):
    Fun Tryz.prog 66 [.pointer (some ⟨gb1,0,none⟩), .slice A6 journal.length c6] [.ro (SlL zP A2 c2 a_p0.needs), .ro (SlL yR A3 c3 a_p0.load.Have), .ro (SlL eu8 A4 c4 a_p0.load.Data), .ro (SlL eu8 A6 c6 journal), .ro (zBI 0 [(2,some 315),(3,some 316)]), .res (Box gb1 144 (zI a_p0 gb2 A1 c1 A2 c2 A3 c3 A4 c4 A5 c5)), .res (xL (yL zF) 64 A1 c1 a_p0.devices), .res (zM yC 3 A5 c5 a_p0.order)] (fun v F=>∃ A7 c7 A8 c8 A9 c9 A10 c10 A11 c11,v= .bool r.2∧F= [.ro (SlL zP A8 c8 r.1.needs), .ro (SlL yR A9 c9 r.1.load.Have), .ro (SlL eu8 A10 c10 r.1.load.Data), .res (Box gb1 144 (zI r.1 gb2 A7 c7 A8 c8 A9 c9 A10 c10 A11 c11)), .res (xL (yL zF) 64 A7 c7 r.1.devices), .res (zM yC 3 A11 c11 r.1.order)]):=by
 refine Fun.intro Tryz.func66 rfl rfl rfl fun w R=>?_;refine .ab [0,1] rfl<|.seq<|.ab [0,1,10] rfl<|.cb h rfl (fun h=>?_) (fun h=>?_)
 ·refine .abf [4] [0,0,0] 1 rfl rfl ?_;cases h;exact .rv rfl rfl ⟨A1,c1,A2,c2,A3,c3,A4,c4,A5,c5,rfl,rfl⟩ (zk 6 4 [3,4,5] [4,4,4] 0 rfl)
 refine .sk<|.pr [0,1] rfl<|.seq<|.regionX (iN [0,4,8,13,17,20,24,29,33,36,40,47,48,52,59] .nil) _ mixed (by kernel_rfl) (zl [0,0,0,0,0] 1 rfl)<|.yn 3 rfl<|.bd h fun x1 hx1 h=>.openA (zm 3 rfl) hx1 fun b1 ob1 hqb1=>.asrt (fun _ w=>Sat.addC hqb1 (zm 3 rfl) hx1 w) ?_;have hc1:=fun w h=>Sat.addC hqb1 (zm 3 rfl) hx1 ((fun (w:World) (h:Sat (.ro (SlL zP A2 c2 a_p0.needs):: .ro (SlL yR A3 c3 a_p0.load.Have):: .ro (SlL eu8 A4 c4 a_p0.load.Data):: .ro (SlL eu8 A6 c6 journal):: .ro (zBI 0 [(2,some 315),(3,some 316)]):: .res (xL (yL zF) 64 A1 c1 a_p0.devices):: .res (zM yC 3 A5 c5 a_p0.order)::R) w)=>h) w h);refine .xfx (Rd.ixL (E:=eu8) hqb1 hx1 rfl rfl rfl rfl rfl rfl rfl) rfl<|.xfx (Rd.load ob1 0 rfl (.head _) rfl rfl) rfl<|.yn 2 rfl<|.bd h fun x2 hx2 h=>.openA (zm 4 rfl) hx2 fun b2 ob2 hqb2=>.asrt (fun _ w=>Sat.addC hqb2 (zm 4 rfl) hx2 w) ?_;have hc2:=fun w h=>Sat.addC hqb2 (zm 4 rfl) hx2 (hc1 w h);refine .xfx (Rd.ixL (E:=eu8) hqb2 hx2 rfl rfl rfl rfl rfl rfl rfl) rfl<|.xfx (Rd.load ob2 0 rfl (.head _) rfl rfl) rfl<|.yn 2 rfl<|.xef<|.sb 3 7 rfl<|.xk (zl [] 3 rfl)<|.yn 2 rfl<|.xef<|.sb 8 0 rfl<|.xk (zl [] 3 rfl)<|.xdone<|.thenN<|.pf [0,1] [0] 2 rfl rfl<|.seq<|.seq<|.regionF mixed (by kernel_rfl)<|.openF (zm 5 rfl) fun gm1=>.ld 0 0 0 rfl<|.n 3 rfl<|.lb 3 2 rfl<|.lookupF rfl rfl rfl (.tail _ (.head _)) rfl rfl rfl rfl rfl (by rfl)<|.nilF (r:=!((IntKind.wrap .i64 x1)==2||((IntKind.wrap .i64 x1)==3||false))) rfl rfl rfl (by kernel_rfl) rfl (.inl ⟨rfl,rfl⟩)<|.beq rfl<|.pf [0,1,30] [] 2 rfl rfl<|.cb h rfl (fun h=>?_) (fun h=>?_)
 ·refine .abf [4] [0,0,0,0] 1 rfl rfl ?_;cases h;exact .rv rfl rfl ⟨A1,c1,A2,c2,A3,c3,A4,c4,A5,c5,rfl,rfl⟩ (zk 6 4 [3,4,5] [0,4,4] 0 rfl)
 refine .sk<|.pr [0,1] rfl<|.seq<|.a 1 rfl<|.bd h fun l1 hl1 h=>.sub (E:=(cod eu8)) rfl rfl (zm 4 rfl) rfl rfl rfl rfl rfl rfl rfl hl1 fun A7 c7=>.bf [0,32,33,34] [0,0,0,0,0] 1 rfl rfl<|.bd h fun o1 hl1 h=>.cutJ 8 (fun (o2:List Int) (e2:Option Addr × Nat)=>[]) (fun o2 e2=>[.res (zM yC 3 e2.1 e2.2 o2), .res (Box gb1 144 [.pointer (zCq a_p0.store gb2), .slice A1 a_p0.devices.length c1, .slice A2 a_p0.needs.length c2, .int .i64 (IntKind.wrap .i64 x1), .int .i64 a_p0.load.Size, .int .i64 a_p0.load.Part, .slice A3 a_p0.load.Have.length c3, .slice A4 a_p0.load.Data.length c4, .int .u8 x2, .slice e2.1 o2.length e2.2]),2,3,4,5,6]) rfl rfl (fun o2=>o1= .inr o2) ?_ ?_
 ·refine .block<|.loopQ hl1 8 (fun (s1:Int × List Int) (e1:Option Addr × Nat)=>[0,32,33, .s 34 (.int .i64 s1.1)]) (fun s1 e1=>[.res (zM yC 3 e1.1 e1.2 s1.2),0, .res (Box gb1 144 [.pointer (zCq a_p0.store gb2), .slice A1 a_p0.devices.length c1, .slice A2 a_p0.needs.length c2, .int .i64 (IntKind.wrap .i64 x1), .int .i64 a_p0.load.Size, .int .i64 a_p0.load.Part, .slice A3 a_p0.load.Have.length c3, .slice A4 a_p0.load.Data.length c4, .int .u8 x2, .slice e1.1 s1.2.length e1.2]),2,3,4,5,6]) rfl rfl (A5,c5) (zb rfl) (zl [7] 0 rfl) ?_;rintro s1 ⟨A8,c8⟩ st1 hm1 hd1 h1;refine .ae rfl<|.seq<|.cb h1 rfl (fun h1=>?_) (fun h1=>?_)
  ·refine .sk<|.pr [0,32,33,34] rfl<|.seq<|.block<|.seq<|.region<|.bd h1 fun x3 hx3 h1=>.ix1 hx3 1 rfl fun b3 ob3=>.ld ob3 0 0 rfl<|.bf [0,6,32,33,34] [] 1 rfl rfl<|.seq<|.ab [0,6,7,32,33,34] rfl<|.seq<|.bd h1 fun o3 hj1 h1=>.cu 0 [0,6,32,33,34, .s 54 (.bool o3)] [] rfl rfl ?_ ?_
   ·refine .region<|.n 4 rfl<|.lb 1 2 rfl<|.n 3 rfl<|.gs 47 hj1 rfl (fun hj1=>?_) (fun hj1=>?_)
    ·cases hj1;exact .be rfl<|.hU rfl zw
    refine .n 3 rfl<|.gOn rfl rfl<|.lb 9 2 rfl<|.n 1 rfl<|.gOn rfl rfl<|.bd hj1 fun r1 hr1 hj1=>.callL (gU hr1) zVc rfl rfl rfl rfl (gW.own (.head _) gW.nil) (fun _ _ h=>by rw [h.2]; exact True.intro) ?_;rintro _ _ ⟨rfl,rfl⟩;refine .nm 8 rfl ?_;cases hj1;exact .be rfl<|.hU rfl zw
   refine .cb h1 rfl (fun h1=>?_) (fun h1=>?_)
   ·refine .abf [4] [0] 1 rfl rfl ?_;cases h1;cases hd1 _ rfl
    have h:some _=some _:=h;cases h;exact .rv rfl rfl ⟨A1,c1,A2,c2,A3,c3,A4,c4,A8,c8,rfl,rfl⟩ (zk 6 4 [3,4,5] [1,5] 0 rfl)
   refine .sk<|.pr [0,6,32,33,34] rfl<|.region<|.n 4 rfl<|.lb 9 2 rfl<|.n 2 rfl<|.bS rfl fun g1=>.bd h1 fun l2 hl2 h1=>.app (E:=yC) hl2 rfl rfl rfl (.s .z) rfl rfl rfl rfl rfl rfl rfl rfl (eI (.head _) rfl rfl) rfl rfl fun A10 c10=>.n 2 rfl<|.sb 9 3 rfl<|.done<|.blkN<|.thenN<|.pf [0,32,33,34] [0,0] 1 rfl rfl<|.region ?_;cases h1;exact .be rfl<|.ag (A10,c10) hm1 rfl (zl [1,1] 0 rfl)
  refine .xq rfl ?_;cases h1;cases hd1 _ rfl
  exact .thenN<|.hereI s1.2 (A8,c8) rfl trivial (zl [0] 1 rfl)
 rintro o2 ⟨A9,c9⟩ ho;subst ho;have h:=unR h;refine .ae rfl ?_;cases h;exact .rv rfl rfl ⟨A1,c1,A2,c2,A3,c3,A4,c4,A9,c9,rfl,rfl⟩ (zk 6 4 [3,4,5] [1,5] 0 rfl)
noncomputable def iA (i_p0:zJ):Option zJ:=
 bnd (zQ i_p0.Data) fun r1=>some (⟨i_p0.Name,i_p0.Version,r1⟩:zJ)
theorem cW {i_p0 A1 c1 r} (h:iA i_p0=some r):
    Fun Tryz.prog 130 [.agg (xD i_p0 A1 c1).toArray] [.ro (SlL eu8 A1 c1 i_p0.Data)] (fun v F=>∃ A2 c2,v= .agg (xD r A2 c2).toArray∧F= [.res (zM eu8 5 A2 c2 r.Data)]):=by
 refine Fun.intro Tryz.func130 rfl rfl rfl fun w R=>?_;refine .seq<|.region<|.box rfl rfl fun g1=>.alloc rfl rfl fun g2=>.b [1,2] rfl<|.a 1 rfl<|.lb 4 1 rfl<|.bd h fun r1 hr1 h=>.cr 4 [2] [] 0 (yK hr1) bB rfl fun A2 c2=>.p rfl rfl<|.sb 4 2 rfl<|.bf [1,2] [0,0,0] 1 rfl rfl<|.seq<|.region<|.lb 0 0 rfl<|.sb 0 2 rfl<|.bf [2] [0] 1 rfl rfl ?_;cases h;exact .rt rfl Tryz.results130 (.cell rfl (.head _) rfl .nil) rfl ⟨A2,c2,rfl,rfl⟩ (zl [] 1 rfl)
noncomputable def dE (d_p0:zB):Option zB:=
 bnd (iA d_p0.Slots.e0.Image) fun r1=>bnd (iA d_p0.Slots.e1.Image) fun r2=>some (⟨d_p0.Name,(⟨(⟨r1,d_p0.Slots.e0.Sum⟩:yF),(⟨r2,d_p0.Slots.e1.Sum⟩:yF)⟩:(qN yF)),d_p0.Active,d_p0.Running,d_p0.Trial⟩:zB)
theorem zDd {d_p0 A1 c1 A2 c2 r} (h:dE d_p0=some r):
    Fun Tryz.prog 94 [.agg (zO d_p0 A1 c1 A2 c2).toArray] [.ro (SlL eu8 A1 c1 d_p0.Slots.e0.Image.Data), .ro (SlL eu8 A2 c2 d_p0.Slots.e1.Image.Data)] (fun v F=>∃ A3 c3 A4 c4,v= .agg (zO r A3 c3 A4 c4).toArray∧F= [.res (zM eu8 5 A3 c3 r.Slots.e0.Image.Data), .res (zM eu8 5 A4 c4 r.Slots.e1.Image.Data)]):=by
 refine Fun.intro Tryz.func94 rfl rfl rfl fun w R=>?_;refine .seq<|.region<|.box rfl rfl fun g1=>.alloc rfl rfl fun g2=>.b [1,2] rfl<|.seq<|.ae rfl<|.block<|.rounds 9<|.round<|.ae rfl<|.seq<|.condT rfl<|.sk<|.pr [1,2,4] rfl<|.seq<|.block<|.ab [1,2,3,4] rfl<|.region<|.n 5 rfl<|.lb 1 1 rfl<|.bd h fun r1 hr1 h=>.cr 5 [2] [] 0 (cW hr1) zDc rfl fun A3 c3=>.n 3 rfl<|.sb 1 2 rfl<|.done<|.blkN<|.thenN<|.pf [1,2,4] [0,0,0] 1 rfl rfl<|.region<|.be rfl<|.round<|.pr [1,2,4] rfl<|.ae rfl<|.seq<|.condT rfl<|.sk<|.pr [1,2,4] rfl<|.seq<|.block<|.ab [1,2,3,4] rfl<|.region<|.n 5 rfl<|.lb 7 0 rfl<|.bd h fun r2 hr2 h=>.cr 5 [3] [] 0 (cW hr2) zDc rfl fun A4 c4=>.n 3 rfl<|.sb 7 1 rfl<|.done<|.blkN<|.thenN<|.pf [1,2,4] [0,0,0,0] 1 rfl rfl<|.region<|.be rfl<|.round<|.pr [1,2,4] rfl<|.ae rfl<|.seq<|.condF rfl<|.xq rfl<|.thenN<|.pr [1,2] rfl<|.seq<|.region<|.lb 0 0 rfl<|.sb 0 3 rfl<|.bf [2] [0] 1 rfl rfl ?_;cases h;exact .rt rfl Tryz.results94 (.cell rfl (.head _) rfl .nil) rfl ⟨A3,c3,A4,c4,rfl,rfl⟩ (zl [2] 1 rfl)
noncomputable def lQ (d_p0:zB):Option zB:=
 bnd (tU d_p0) fun r1=>bif !r1 then (some (⟨⟨#[]⟩,(⟨(⟨(⟨⟨#[]⟩,(⟨0,0,0⟩:zL), []⟩:zJ),0⟩:yF),(⟨(⟨⟨#[]⟩,(⟨0,0,0⟩:zL), []⟩:zJ),0⟩:yF)⟩:(qN yF)),0,0,false⟩:zB)) else (bnd (dE d_p0) fun r2=>bif r2.Trial then (some (⟨r2.Name,r2.Slots,r2.Active,IntKind.wrap .i64 (1 - r2.Active),false⟩:zB)) else (some (⟨r2.Name,r2.Slots,r2.Active,r2.Active,r2.Trial⟩:zB)))
theorem zEr {d_p0 A1 c1 A2 c2 r} (h:lQ d_p0=some r):
    Fun Tryz.prog 35 [.agg (zO d_p0 A1 c1 A2 c2).toArray] [.ro (SlL eu8 A1 c1 d_p0.Slots.e0.Image.Data), .ro (SlL eu8 A2 c2 d_p0.Slots.e1.Image.Data)] (fun v F=>∃ A3 c3 A4 c4,v= .agg (zO r A3 c3 A4 c4).toArray∧F= [.res (zM eu8 5 A3 c3 r.Slots.e0.Image.Data), .res (zM eu8 5 A4 c4 r.Slots.e1.Image.Data)]):=by
 refine Fun.intro Tryz.func35 rfl rfl rfl fun w R=>?_;refine .seq<|.region<|.box rfl rfl fun g1=>.alloc rfl rfl fun g2=>.b [1,2] rfl<|.seq<|.seq<|.region<|.lb 0 1 rfl<|.bd h fun r1 hr1 h=>.cv [2,3] (oW hr1) zHo rfl<|.b [1,2,6] rfl<|.cb h rfl (fun h=>?_) (fun h=>?_)
 ·refine .a 1 rfl<|.sb 0 0 rfl<|.bf [2] [0] 3 rfl rfl<|.asrt (fun _ w=>w.nilL eu8 5)<|.asrt (fun _ w=>w.nilL eu8 5) ?_;cases h;exact .rt rfl Tryz.results35 (.cell rfl (.tail _ (.tail _ (.head _))) rfl .nil) rfl ⟨none,0,none,0,rfl,rfl⟩ (zl [1,0] 1 rfl)
 refine .sk<|.pr [1,2] rfl<|.seq<|.region<|.lb 0 1 rfl<|.bd h fun r2 hr2 h=>.ct 6 [2,3] [] 0 (zDd hr2) zFU rfl fun A3 c3 A4 c4=>.alloc rfl rfl fun g3=>.sb 0 0 rfl<|.bf [2,3] [0,0,0,0] 3 rfl rfl<|.a 1 rfl<|.lb 13 0 rfl<|.p rfl rfl<|.sb 14 0 rfl<|.b [2,3] rfl<|.seq<|.a 1 rfl<|.lb 15 0 rfl<|.b [2,3,14] rfl<|.cb h rfl (fun h=>?_) (fun h=>?_)
 ·refine .region<|.p rfl rfl<|.lb 13 0 rfl<|.n 2 rfl<|.sb 14 0 rfl<|.p rfl rfl<|.sb 15 0 rfl<|.b [2,3] rfl<|.seq<|.region<|.lb 0 0 rfl<|.sb 0 3 rfl<|.bf [2] [0] 1 rfl rfl ?_;cases h;exact .rt rfl Tryz.results35 (.cell rfl (.head _) rfl .nil) rfl ⟨A3,c3,A4,c4,rfl,rfl⟩ (zl [] 1 rfl)
 refine .sk<|.pr [2,3] rfl<|.seq<|.region<|.lb 0 0 rfl<|.sb 0 3 rfl<|.bf [2] [0] 1 rfl rfl ?_;cases h;exact .rt rfl Tryz.results35 (.cell rfl (.head _) rfl .nil) rfl ⟨A3,c3,A4,c4,rfl,rfl⟩ (zl [] 1 rfl)
theorem zMW:Ent Tryz.prog 146:=en Tryz.func146 (by kernel_rfl)
noncomputable def wI (a_p0:zC) (i_p1:Int):Option Bool:=
 bnd (elt a_p0.devices i_p1) fun x1=>bnd (zEW .u8 a_p0.before i_p1) fun q1=>some (x1.Active != (IntKind.wrap .i64 (rA .u8 q1 1)))
theorem pA {a_p0 i_p1 A1 c1 A2 c2 A3 c3 A4 c4 A5 c5 gb1 gb2 r} (h:wI a_p0 i_p1=some r):
    Fun Tryz.prog 146 [.pointer (some ⟨gb1,0,none⟩), .int .i64 i_p1] [.ro (SlL zP A2 c2 a_p0.needs), .ro (SlL yR A3 c3 a_p0.load.Have), .ro (SlL eu8 A4 c4 a_p0.load.Data), .ro (SlL yC A5 c5 a_p0.order), .res (Box gb1 144 (zI a_p0 gb2 A1 c1 A2 c2 A3 c3 A4 c4 A5 c5)), .res (xL (yL zF) 64 A1 c1 a_p0.devices)] (fun v F=>v= .bool r∧F= [.res (Box gb1 144 (zI a_p0 gb2 A1 c1 A2 c2 A3 c3 A4 c4 A5 c5)), .res (xL (yL zF) 64 A1 c1 a_p0.devices)]):=by
 refine Fun.intro Tryz.func146 rfl rfl rfl fun w R=>?_;refine .ab [0,1] rfl<|.seq<|.regionF mixed (by kernel_rfl)<|.n 3 rfl<|.lb 1 4 rfl<|.p rfl rfl<|.bd h fun x1 hx1 h=>.ixC hx1 rfl rfl rfl (zm 5 rfl) rfl rfl rfl rfl rfl fun g1 hA=>?_;subst hA;refine .p rfl rfl<|.ldC (ls:=zF) 13 (fun ex=>.int .i64 x1.Active) hx1 rfl rfl (zm 5 rfl) rfl (fun _=>rfl) fun ex1=>?_;obtain ⟨⟨A6,c6⟩,⟨⟨A7,c7⟩,_⟩⟩:=ex1;refine .nm 8 rfl<|.n 3 rfl<|.lb 8 6 rfl<|.p rfl rfl<|.bd h fun q1 hq1 h=>.shr rfl rfl rfl hq1<|.beq rfl<|.pf [4] [] 2 rfl rfl ?_;cases h;exact .rv rfl rfl ⟨rfl,rfl⟩ (zl [] 4 rfl)
theorem zLQ:Ent Tryz.prog 225:=en Tryz.func225 (by kernel_rfl)
noncomputable def sZ (s_p0:(List Int)) (f_p1_b:zC):Option Int:=
 bnd (yE (τ:=Int ⊕ Unit) (fun (s1:Int)=>bif decide (s1<(s_p0.length:Int)) then (bnd (elt s_p0 s1) fun x1=>bnd (wI f_p1_b x1) fun r1=>bif r1 then (some (.done (.inl s1))) else (some (.next (IntKind.wrap .i64 (s1+1))))) else (some (.done (.inr ())))) 0) fun o1=>vB o1 fun o2=>some (-1)
theorem lY {s_p0 f_p1_b A1 c1 A2 c2 A3 c3 A4 c4 A5 c5 A6 c6 gb1 gb2 r} (h:sZ s_p0 f_p1_b=some r):
    Fun Tryz.prog 225 [.slice A1 s_p0.length c1, .func (.func 146) #[.pointer (some ⟨gb1,0,none⟩)] #[]] [.ro (SlL yC A1 c1 s_p0), .ro (SlL zP A3 c3 f_p1_b.needs), .ro (SlL yR A4 c4 f_p1_b.load.Have), .ro (SlL eu8 A5 c5 f_p1_b.load.Data), .ro (SlL yC A6 c6 f_p1_b.order), .res (Box gb1 144 (zI f_p1_b gb2 A2 c2 A3 c3 A4 c4 A5 c5 A6 c6)), .res (xL (yL zF) 64 A2 c2 f_p1_b.devices)] (fun v F=>v= .int .i64 r∧F= [.res (Box gb1 144 (zI f_p1_b gb2 A2 c2 A3 c3 A4 c4 A5 c5 A6 c6)), .res (xL (yL zF) 64 A2 c2 f_p1_b.devices)]):=by
 refine Fun.intro Tryz.func225 rfl rfl rfl fun w R=>?_;refine .ab [0,1] rfl<|.seq<|.ab [0,1,7,8] rfl<|.bd h fun o1 hl1 h=>.cutJ 1 (fun (o2:Unit) (e2:Unit)=>[]) (fun o2 e2=>[]) rfl rfl (fun o2=>o1= .inr o2) ?_ ?_
 ·refine .block<|.loopQ hl1 0 (fun (s1:Int) (e1:Unit)=>[0,1,7, .s 8 (.int .i64 s1)]) (fun s1 e1=>[]) rfl rfl () (zb rfl) (fun _ w=>w) ?_;rintro s1 e1 st1 hm1 hd1 h1;refine .ae rfl<|.seq<|.cb h1 rfl (fun h1=>?_) (fun h1=>?_)
  ·refine .sk<|.pr [0,1,7,8] rfl<|.seq<|.block<|.ab [0,1,5,7,8] rfl<|.a 3 rfl<|.bd h1 fun x1 hx1 h1=>.ix1 hx1 0 rfl fun b1 ob1=>.ld ob1 0 0 rfl<|.bd h1 fun r1 hr1 h1=>.callB (us:= [.pointer (some ⟨gb1,0,none⟩)]) (args:= [.int .i64 x1]) (pA (gb1:=gb1) hr1) zMW rfl rfl rfl (zd [4,5,6,7] [6,6] 0 rfl) ?_;rintro _ _ ⟨rfl,rfl⟩;refine .nm 8 rfl<|.bf [0,1,5,7,8,16] [0,0] 1 rfl rfl<|.cb h1 rfl (fun h1=>?_) (fun h1=>?_)
   ·refine .abf [4] [0,0] 1 rfl rfl ?_;cases h1;cases hd1 _ rfl
    have h:some _=some _:=h;cases h;exact .rv rfl rfl ⟨rfl,rfl⟩ (zl [0,0] 4 rfl)
   refine .skip<|.blkN<|.thenN<|.pr [0,1,7,8] rfl<|.region ?_;cases h1;exact .be rfl<|.ag () hm1 rfl (zl [2,2,2,2,2] 0 rfl)
  refine .xq rfl ?_;cases h1;cases hd1 _ rfl
  exact .thenN<|.hereI () () rfl trivial (zl [] 1 rfl)
 rintro o2 e2 ho;subst ho;have h:=unR h;refine .ae rfl ?_;cases h;exact .rv rfl rfl ⟨rfl,rfl⟩ (zl [] 4 rfl)
theorem zLF:Ent Tryz.prog 147:=en Tryz.func147 (by kernel_rfl)
noncomputable def vF (s_p0:(List Int)) (f_p1_b:zC):Option Bool:=
 bnd (sZ s_p0 f_p1_b) fun r1=>some (decide (r1≥0))
theorem tY {s_p0 f_p1_b A1 c1 A2 c2 A3 c3 A4 c4 A5 c5 A6 c6 gb1 gb2 r} (h:vF s_p0 f_p1_b=some r):
    Fun Tryz.prog 147 [.slice A1 s_p0.length c1, .func (.func 146) #[.pointer (some ⟨gb1,0,none⟩)] #[]] [.ro (SlL yC A1 c1 s_p0), .ro (SlL zP A3 c3 f_p1_b.needs), .ro (SlL yR A4 c4 f_p1_b.load.Have), .ro (SlL eu8 A5 c5 f_p1_b.load.Data), .ro (SlL yC A6 c6 f_p1_b.order), .res (Box gb1 144 (zI f_p1_b gb2 A2 c2 A3 c3 A4 c4 A5 c5 A6 c6)), .res (xL (yL zF) 64 A2 c2 f_p1_b.devices)] (fun v F=>v= .bool r∧F= [.res (Box gb1 144 (zI f_p1_b gb2 A2 c2 A3 c3 A4 c4 A5 c5 A6 c6)), .res (xL (yL zF) 64 A2 c2 f_p1_b.devices)]):=by
 refine Fun.intro Tryz.func147 rfl rfl rfl fun w R=>?_;refine .ab [0,1] rfl<|.a 2 rfl<|.bd h fun r1 hr1 h=>.cq 7 [2,3,4,5,6] [5,5] 0 (lY (gb1:=gb1) hr1) zLQ rfl<|.bf [4] [0,0] 1 rfl rfl ?_;cases h;exact .rv rfl rfl ⟨rfl,rfl⟩ (zl [0,0] 4 rfl)
theorem zWg:Ent Tryz.prog 188:=en Tryz.func188 (by kernel_rfl)
noncomputable def rW (d_p0:zA):Option Bool:=
 some d_p0.down
theorem zAx {d_p0 A1 c1 A2 c2 gb1 r} (h:rW d_p0=some r):
    Fun Tryz.prog 188 [.pointer (some ⟨gb1,0,none⟩)] [.res (Box gb1 131 (zG d_p0 A1 c1 A2 c2)), .res (zM eu8 5 A1 c1 d_p0.bytes), .res (zM yC 3 A2 c2 d_p0.wear)] (fun v F=>v= .bool r∧F= [.res (Box gb1 131 (zG d_p0 A1 c1 A2 c2)), .res (zM eu8 5 A1 c1 d_p0.bytes), .res (zM yC 3 A2 c2 d_p0.wear)]):=by
 unfold rW at h
 refine Fun.intro Tryz.func188 rfl rfl rfl fun w R=>?_;refine .ab [0] rfl<|.a 3 rfl<|.lb 6 0 rfl<|.b [2] rfl ?_;cases h;exact .rv rfl rfl ⟨rfl,rfl⟩ zw
theorem zUE:Ent Tryz.prog 189:=en Tryz.func189 (by kernel_rfl)
noncomputable def oU (l_p0:(List zE)):Option Int:=
 bif decide ((l_p0.length:Int)>32) then (some 3) else (bnd (yE (τ:=Int ⊕ ((List (Int × Bool)))) (fun (s1:Int × (List (Int × Bool)))=>bif decide (s1.1<(l_p0.length:Int)) then (bnd (elt l_p0 s1.1) fun x1=>bnd ((bif decide ((x1.Value.length:Int)>28) then (some true) else (bif x1.Delete then (some (decide ((x1.Value.length:Int)>0))) else (some false)):Option Bool)) fun o3=>bif o3 then (some (.done (.inl 1))) else (bif (vJ (zZ .u8).eq s1.2 x1.Key).getD false then (some (.done (.inl 7))) else (some (.next (IntKind.wrap .i64 (s1.1+1),nD (zZ .u8).eq s1.2 x1.Key true))))) else (some (.done (.inr s1.2)))) (0, [])) fun o1=>vB o1 fun o2=>some 0)
theorem zDh {l_p0 A1 c1 r} (h:oU l_p0=some r):
    Fun Tryz.prog 189 [.slice A1 l_p0.length c1] [.ro (Sl (yL xK) A1 c1 l_p0)] (Val (.int .i64 r)):=by
 refine Fun.intro Tryz.func189 rfl rfl rfl fun w R=>?_;refine .ab [0] rfl<|.seq<|.ab [0,8] rfl<|.cb h rfl (fun h=>?_) (fun h=>?_)
 ·refine .abf [2] [] 1 rfl rfl ?_;cases h;exact .rv rfl rfl ⟨rfl,rfl⟩ zw
 refine .sk<|.pr [0] rfl<|.seq<|.region<|.makeMap (K:=(zZ .u8)) (vv:=(fun x=>.bool x)) rfl fun g1=>.b [0,3] rfl<|.seq<|.ab [3,10,11,12] rfl<|.bd h fun o1 hl1 h=>.cutJ 2 (fun (o2:(List (Int × Bool))) (e2:Unit)=>[]) (fun o2 e2=>[]) rfl rfl (fun o2=>o1= .inr o2) ?_ ?_
 ·refine .block<|.loopQ hl1 1 (fun (s1:Int × (List (Int × Bool))) (e1:Unit)=>[3,10,11, .s 12 (.int .i64 s1.1)]) (fun s1 e1=>[.res (oX (zZ .u8) (fun x=>.bool x) g1 s1.2)]) rfl rfl () (zb rfl) (fun _ w=>w) ?_;rintro s1 e1 st1 hm1 hd1 h1;refine .ae rfl<|.seq<|.cb h1 rfl (fun h1=>?_) (fun h1=>?_)
  ·refine .sk<|.pr [3,10,11,12] rfl<|.seq<|.block<|.seq<|.region<|.bd h1 fun x1 hx1 h1=>.ix3 hx1 1 rfl fun b1 ob1 ex1=>?_;obtain ⟨⟨A2,c2⟩,_⟩:=ex1;refine .nm 4 rfl<|.ld ob1 0 0 rfl<|.alloc rfl rfl fun g2=>.sb 0 0 rfl<|.bf [3,5,10,11,12] [0] 1 rfl rfl<|.seq<|.block<|.seq<|.bd h1 fun o3 hj1 h1=>.cu 0 [3,5,10,11,12, .s 16 (.bool o3)] [] rfl rfl ?_ ?_
   ·refine .region<|.p rfl rfl<|.lb 1 0 rfl<|.n 3 rfl<|.gs 21 hj1 rfl (fun hj1=>?_) (fun hj1=>?_)
    ·cases hj1;exact .be rfl<|.hU rfl zw
    refine .n 1 rfl<|.gOn rfl rfl<|.lb 2 0 rfl<|.n 1 rfl<|.gs 24 hj1 rfl (fun hj1=>?_) (fun hj1=>?_)
    ·refine .n 1 rfl<|.gOn rfl rfl<|.lb 1 0 rfl ?_;cases hj1;exact .be rfl<|.hU rfl zw
    cases hj1;exact .be rfl<|.hU rfl zw
   refine .cb h1 rfl (fun h1=>?_) (fun h1=>?_)
   ·refine .abf [2] [] 4 rfl rfl ?_;cases h1;cases hd1 _ rfl
    have h:some _=some _:=h;cases h;exact .rv rfl rfl ⟨rfl,rfl⟩ zw
   refine .a 2 rfl<|.lb 0 0 rfl<|.lookup (K:=(zZ .u8)) (vv:=(fun x=>.bool x)) (u:=.bool ((vJ (zZ .u8).eq s1.2 x1.Key).getD false)) false x1.Key rfl rfl rfl (zm 2 rfl) rfl rfl rfl rfl rfl rfl rfl<|.b [3,5,10,11,12,31] rfl<|.cb h1 rfl (fun h1=>?_) (fun h1=>?_)
   ·refine .abf [2] [] 4 rfl rfl ?_;cases h1;cases hd1 _ rfl
    have h:some _=some _:=h;cases h;exact .rv rfl rfl ⟨rfl,rfl⟩ zw
   refine .skip<|.blkN<|.thenN<|.pr [3,5,10,11,12] rfl<|.region<|.n 2 rfl<|.lb 0 0 rfl<|.mapUpdate (K:=(zZ .u8)) (vv:=(fun x=>.bool x)) x1.Key true rfl rfl rfl (.s (.s .z)) rfl rfl rfl rfl<|.done<|.blkN<|.thenN<|.pf [3,10,11,12] [0] 2 rfl rfl<|.region ?_;cases h1;exact .be rfl<|.ag () hm1 rfl zw
  refine .xq rfl ?_;cases h1;cases hd1 _ rfl
  exact .thenN<|.hereI s1.2 () rfl trivial (zl [] 2 rfl)
 rintro o2 e2 ho;subst ho;have h:=unR h;refine .ae rfl ?_;cases h;exact .rv rfl rfl ⟨rfl,rfl⟩ zw
theorem zRw:Ent Tryz.prog 190:=en Tryz.func190 (by kernel_rfl)
noncomputable def rK (l_p0:(List zE)):Option (List Int):=
 bnd (yE (τ:=List Int) (fun (s1:List Int × Int)=>bif decide (s1.2<(l_p0.length:Int)) then (bnd (elt l_p0 s1.2) fun x1=>bif x1.Delete then (bnd (app 1 s1.1 [x1.Key,128]) fun l1=>some (.next (l1,IntKind.wrap .i64 (s1.2+1)))) else (bnd (app 1 s1.1 [x1.Key,IntKind.wrap .u8 (x1.Value.length:Int)]) fun l2=>bnd (app 1 l2 x1.Value) fun l3=>some (.next (l3,IntKind.wrap .i64 (s1.2+1))))) else (some (.done s1.1))) ([IntKind.wrap .u8 (l_p0.length:Int)],0)) fun o1=>bnd (app 1 o1 [0]) fun l4=>some l4
theorem fM {l_p0 A1 c1 r} (h:rK l_p0=some r):
    Fun Tryz.prog 190 [.slice A1 l_p0.length c1] [.ro (Sl (yL xK) A1 c1 l_p0)] (fun v F=>∃ A2 c2,v= .slice A2 r.length c2∧F= [.res (zM eu8 5 A2 c2 r)]):=by
 refine Fun.intro Tryz.func190 rfl rfl rfl fun w R=>?_;refine .ab [0] rfl<|.a 3 rfl<|.bS rfl fun g1=>.b [0,3] rfl<|.seq<|.ab [3,10,11,12] rfl<|.asrt (fun _ w=>w.litL (E:=eu8) (e:=5) [IntKind.wrap .u8 (l_p0.length:Int)] rfl rfl)<|.bd h fun o1 hl1 h=>.cutK 2 (fun (e2:Option Addr × Nat)=>[.s 3 (.slice e2.1 o1.length e2.2)]) (fun e2=>[.res (zM eu8 5 e2.1 e2.2 o1)]) rfl rfl ?_ ?_
 ·refine .block<|.loopQ hl1 1 (fun (s1:List Int × Int) (e1:Option Addr × Nat)=>[.s 3 (.slice e1.1 s1.1.length e1.2),10,11, .s 12 (.int .i64 s1.2)]) (fun s1 e1=>[.res (zM eu8 5 e1.1 e1.2 s1.1)]) rfl rfl ((some ⟨g1,0,none⟩),([IntKind.wrap .u8 (l_p0.length:Int)]:List Int).length) (zb rfl) (fun _ w=>w) ?_;rintro s1 ⟨A2,c2⟩ st1 hm1 hd1 h1;refine .ae rfl<|.seq<|.cb h1 rfl (fun h1=>?_) (fun h1=>?_)
  ·refine .sk<|.pr [3,10,11,12] rfl<|.seq<|.block<|.seq<|.region<|.bd h1 fun x1 hx1 h1=>.ix3 hx1 1 rfl fun b1 ob1 ex1=>?_;obtain ⟨⟨A4,c4⟩,_⟩:=ex1;refine .nm 4 rfl<|.ld ob1 0 0 rfl<|.alloc rfl rfl fun g2=>.sb 0 0 rfl<|.bf [3,5,10,11,12] [0] 1 rfl rfl<|.a 1 rfl<|.lb 2 0 rfl<|.b [3,5,10,11,12,17] rfl<|.cb h1 rfl (fun h1=>?_) (fun h1=>?_)
   ·refine .region<|.n 2 rfl<|.lb 0 0 rfl<|.bS rfl fun g3=>.bd h1 fun l1 hl1 h1=>.app (E:=eu8) hl1 rfl rfl rfl (.s (.s (.s .z))) rfl rfl rfl rfl rfl rfl rfl rfl (eI (.head _) rfl rfl) rfl rfl fun A5 c5=>.p rfl rfl<|.done<|.blkN<|.thenN<|.pf [3,10,11,12] [0] 3 rfl rfl<|.region ?_;cases h1;exact .be rfl<|.ag (A5,c5) hm1 rfl zw
   refine .regionX (iN [0,4,9,12,17,20,24,36,40,31,35,47,48] .nil) _ mixed (by kernel_rfl) (zl [0,0] 1 rfl)<|.yn 2 rfl<|.yx 0 0 rfl<|.yn 1 rfl<|.yx 1 0 rfl<|.yn 3 rfl<|.yl 1 0 rfl<|.xef<|.bS rfl fun g4=>.xk (zl [1,1] 2 rfl)<|.xef<|.bd h1 fun l2 hl2 h1=>.app (E:=eu8) hl2 rfl rfl rfl (.s (.s (.s .z))) rfl rfl rfl rfl rfl rfl rfl rfl (eI (.head _) rfl rfl) rfl rfl fun A6 c6=>.xk (zl [] 2 rfl)<|.xef<|.bd h1 fun l3 hl3 h1=>.app (E:=eu8) hl3 rfl rfl rfl .z rfl rfl rfl rfl rfl rfl rfl rfl (iV (.tail _ (.tail _ (.tail _ (.head _))))) rfl rfl fun A7 c7=>.xk (zl [] 2 rfl)<|.yn 1 rfl<|.xdone<|.blkN<|.thenN<|.pf [3,10,11,12] [0] 3 rfl rfl<|.region ?_;cases h1;exact .be rfl<|.ag (A7,c7) hm1 rfl zw
  refine .xq rfl ?_;cases h1;cases hd1 _ rfl
  exact .thenN<|.hE (A2,c2) rfl (zl [0] 1 rfl)
 rintro ⟨A3,c3⟩;refine .a 1 rfl<|.bS rfl fun g5=>.bd h fun l4 hl4 h=>.app (E:=eu8) hl4 rfl rfl rfl (.s .z) rfl rfl rfl rfl rfl rfl rfl rfl (eI (.head _) rfl rfl) rfl rfl fun A8 c8=>.bf [2] [0] 1 rfl rfl ?_;cases h;exact .rv rfl rfl ⟨A8,c8,rfl,rfl⟩ zw
theorem zPO:Ent Tryz.prog 239:=en Tryz.func239 (by kernel_rfl)
noncomputable def wW (d_p0:zA):Option (zA × Bool):=
 bif decide (d_p0.left>0) then (some ((⟨d_p0.size,d_p0.bytes,d_p0.wear,IntKind.wrap .i64 (d_p0.steps+1),IntKind.wrap .i64 (d_p0.left - 1),d_p0.torn,((IntKind.wrap .i64 (d_p0.left - 1))==0)⟩:zA),((IntKind.wrap .i64 (d_p0.left - 1))==0))) else (some ((⟨d_p0.size,d_p0.bytes,d_p0.wear,IntKind.wrap .i64 (d_p0.steps+1),d_p0.left,d_p0.torn,d_p0.down⟩:zA),d_p0.down))
theorem iK {d_p0 A1 c1 A2 c2 gb1 r} (h:wW d_p0=some r):
    Fun Tryz.prog 239 [.pointer (some ⟨gb1,0,none⟩)] [.res (Box gb1 131 (zG d_p0 A1 c1 A2 c2)), .res (zM eu8 5 A1 c1 d_p0.bytes), .res (zM yC 3 A2 c2 d_p0.wear)] (fun v F=>∃ A3 c3 A4 c4,v= .bool r.2∧F= [.res (Box gb1 131 (zG r.1 A3 c3 A4 c4)), .res (zM eu8 5 A3 c3 r.1.bytes), .res (zM yC 3 A4 c4 r.1.wear)]):=by
 refine Fun.intro Tryz.func239 rfl rfl rfl fun w R=>?_;refine .ab [0] rfl<|.a 3 rfl<|.lb 3 0 rfl<|.n 3 rfl<|.sb 3 0 rfl<|.b [0] rfl<|.seq<|.a 3 rfl<|.lb 4 0 rfl<|.b [0,14] rfl<|.cb h rfl (fun h=>?_) (fun h=>?_)
 ·refine .a 3 rfl<|.lb 4 0 rfl<|.n 3 rfl<|.sb 4 0 rfl<|.b [0] rfl<|.region<|.n 4 rfl<|.lb 4 0 rfl<|.n 3 rfl<|.sb 6 0 rfl<|.b [0] rfl<|.a 3 rfl<|.lb 6 0 rfl<|.b [2] rfl ?_;cases h;exact .rv rfl rfl ⟨A1,c1,A2,c2,rfl,rfl⟩ zw
 refine .sk<|.pr [0] rfl<|.a 3 rfl<|.lb 6 0 rfl<|.b [2] rfl ?_;cases h;exact .rv rfl rfl ⟨A1,c1,A2,c2,rfl,rfl⟩ zw
theorem zJa:Ent Tryz.prog 191:=en Tryz.func191 (by kernel_rfl)
noncomputable def wH (d_p0:zA) (at_p1:Int) (b_p2:(List Int)):Option (zA × Int):=
 bif d_p0.down then (some (d_p0,10)) else (bnd (uN d_p0 at_p1 (b_p2.length:Int)) fun r1=>bif !r1 then (some (d_p0,2)) else (bnd (yE (τ:=(zA × Int) ⊕ zA) (fun (s1:zA × Int)=>bif decide (s1.2<(b_p2.length:Int)) then (bnd (elt b_p2 s1.2) fun x1=>bnd (wW s1.1) fun r2=>bif r2.2 then (bnd (elt r2.1.bytes (IntKind.wrap .i64 (at_p1+s1.2))) fun x2=>bnd (elt r2.1.bytes (IntKind.wrap .i64 (at_p1+s1.2))) fun x3=>bnd (elt r2.1.bytes (IntKind.wrap .i64 (at_p1+s1.2))) fun x4=>bnd (sT r2.1.bytes (IntKind.wrap .i64 (at_p1+s1.2)) (rA .u8 x3 (iOr .u8 x1 r2.1.torn))) fun l1=>some (.done (.inl ((⟨r2.1.size,l1,r2.1.wear,r2.1.steps,r2.1.left,r2.1.torn,r2.1.down⟩:zA),10)))) else (bnd (elt r2.1.bytes (IntKind.wrap .i64 (at_p1+s1.2))) fun x5=>bnd (sT r2.1.bytes (IntKind.wrap .i64 (at_p1+s1.2)) (rA .u8 x5 x1)) fun l2=>some (.next ((⟨r2.1.size,l2,r2.1.wear,r2.1.steps,r2.1.left,r2.1.torn,r2.1.down⟩:zA),IntKind.wrap .i64 (s1.2+1))))) else (some (.done (.inr s1.1)))) (d_p0,0)) fun o1=>vB o1 fun o2=>some (o2,0)))
theorem tR {d_p0 at_p1 b_p2 A1 c1 A2 c2 A3 c3 gb1 r} (h:wH d_p0 at_p1 b_p2=some r):
    Fun Tryz.prog 191 [.pointer (some ⟨gb1,0,none⟩), .int .i64 at_p1, .slice A3 b_p2.length c3] [.ro (SlL eu8 A3 c3 b_p2), .res (Box gb1 131 (zG d_p0 A1 c1 A2 c2)), .res (zM eu8 5 A1 c1 d_p0.bytes), .res (zM yC 3 A2 c2 d_p0.wear)] (fun v F=>∃ A4 c4 A5 c5,v= .int .i64 r.2∧F= [.res (Box gb1 131 (zG r.1 A4 c4 A5 c5)), .res (zM eu8 5 A4 c4 r.1.bytes), .res (zM yC 3 A5 c5 r.1.wear)]):=by
 refine Fun.intro Tryz.func191 rfl rfl rfl fun w R=>?_;refine .ab [0,1,2] rfl<|.seq<|.block<|.a 3 rfl<|.lb 6 1 rfl<|.b [0,1,2,9] rfl<|.cb h rfl (fun h=>?_) (fun h=>?_)
 ·refine .abf [6] [] 1 rfl rfl ?_;cases h;exact .rv rfl rfl ⟨A1,c1,A2,c2,rfl,rfl⟩ zw
 refine .a 4 rfl<|.bd h fun r1 hr1 h=>.cq 4 [] [1,1,1] 0 (kE hr1) zQo rfl<|.b [0,1,2,14] rfl<|.cb h rfl (fun h=>?_) (fun h=>?_)
 ·refine .abf [6] [0,0,0] 1 rfl rfl ?_;cases h;exact .rv rfl rfl ⟨A1,c1,A2,c2,rfl,rfl⟩ zw
 refine .skip<|.blkN<|.thenN<|.pr [0,1,2] rfl<|.seq<|.ab [0,1,21,22,23] rfl<|.bd h fun o1 hl1 h=>.cutJ 4 (fun (o2:zA) (e2:Option Addr × Nat × Option Addr × Nat)=>[]) (fun o2 e2=>[.res (zM yC 3 e2.2.2.1 e2.2.2.2 o2.wear), .res (zM eu8 5 e2.1 e2.2.1 o2.bytes), .res (Box gb1 131 (zG o2 e2.1 e2.2.1 e2.2.2.1 e2.2.2.2))]) rfl rfl (fun o2=>o1= .inr o2) ?_ ?_
 ·refine .block<|.loopQ hl1 3 (fun (s1:zA × Int) (e1:Option Addr × Nat × Option Addr × Nat)=>[0,1,21,22, .s 23 (.int .i64 s1.2)]) (fun s1 e1=>[.res (zM yC 3 e1.2.2.1 e1.2.2.2 s1.1.wear), .res (zM eu8 5 e1.1 e1.2.1 s1.1.bytes), .res (Box gb1 131 (zG s1.1 e1.1 e1.2.1 e1.2.2.1 e1.2.2.2))]) rfl rfl (A1,c1,A2,c2) (zb rfl) (zl [2,1] 0 rfl) ?_;rintro s1 ⟨A4,c4,A5,c5⟩ st1 hm1 hd1 h1;refine .ae rfl<|.seq<|.cb h1 rfl (fun h1=>?_) (fun h1=>?_)
  ·refine .sk<|.pr [0,1,21,22,23] rfl<|.seq<|.block<|.a 1 rfl<|.bd h1 fun x1 hx1 h1=>.ix1 hx1 3 rfl fun b1 ob1=>.ld ob1 0 0 rfl<|.bf [0,1,7,8,21,22,23] [] 1 rfl rfl<|.seq<|.a 1 rfl<|.bd h1 fun r2 hr2 h1=>.ct 4 [] [2,1] 0 (iK hr2) zPO rfl fun A8 c8 A9 c9=>.b [0,1,7,8,21,22,23,29] rfl<|.cb h1 rfl (fun h1=>?_) (fun h1=>?_)
   ·refine .seq<|.bd h1 fun x2 hx2 h1=>.openO (.tail _ (.head _)) hx2 fun g1 hA=>?_;subst hA;refine .regionX (iN [0,4,8,13,16,20,24,29,33,36,40,44,48,53,56,60,65,71] .nil) _ mixed (by kernel_rfl) (zl [] 2 rfl)<|.yn 3 rfl<|.yx 1 0 rfl<|.yn 3 rfl<|.bd h1 fun x3 hx3 h1=>.xfx (Rd.ixO (E:=eu8) hx3 rfl rfl rfl rfl rfl rfl rfl) rfl<|.xfx (Rd.ldO 0 hx3 rfl (.tail _ (.head _)) rfl rfl) rfl<|.yn 4 rfl<|.yx 5 0 rfl<|.yn 2 rfl<|.bd h1 fun x4 hx4 h1=>.xfx (Rd.ixO (E:=eu8) hx4 rfl rfl rfl rfl rfl rfl rfl) rfl<|.xef<|.bd h1 fun l1 hl1 h1=>.stO 0 hx4 hl1 rfl rfl (.s .z) rfl rfl rfl rfl rfl ?_;refine .ss 33 (uZ hl1)<|.asrt (F':=.res (zM eu8 5 (some ⟨g1,0,none⟩) c8 l1):: .res (Box gb1 131 [.int .i64 r2.1.size, .slice (some ⟨g1,0,none⟩) l1.length c8, .slice A9 r2.1.wear.length c9, .int .i64 r2.1.steps, .int .i64 r2.1.left, .int .u8 r2.1.torn, .bool r2.1.down]):: .res (zM yC 3 A9 c9 r2.1.wear):: .ro (SlL eu8 A3 c3 b_p2)::R) (fun _ w=>by rw [pE hl1]; exact w)<|.xk (zl [] 2 rfl)<|.xdone<|.thenN<|.pf [] [0,0,0] 1 rfl rfl<|.ae rfl ?_;cases h1;cases hd1 _ rfl
    have h:some _=some _:=h;cases h;exact .rv rfl rfl ⟨(some ⟨g1,0,none⟩),c8,A9,c9,rfl,rfl⟩ (zl [1] 0 rfl)
   refine .sk<|.pr [0,1,7,8,21,22,23] rfl<|.region<|.n 3 rfl<|.lb 1 0 rfl<|.n 3 rfl<|.bd h1 fun x5 hx5 h1=>.ix2 hx5 1 rfl fun g4 hA=>?_;subst hA;refine .ldO 0 hx5 rfl rfl (.tail _ (.head _)) rfl rfl<|.n 2 rfl<|.ix2 hx5 1 rfl fun g5 hA=>?_;cases hA;refine .bd h1 fun l2 hl2 h1=>.stO 0 hx5 hl2 rfl rfl (.s .z) rfl rfl rfl rfl rfl ?_;refine .ss 50 (uZ hl2)<|.asrt (F':=.res (zM eu8 5 (some ⟨g4,0,none⟩) c8 l2):: .res (Box gb1 131 [.int .i64 r2.1.size, .slice (some ⟨g4,0,none⟩) l2.length c8, .slice A9 r2.1.wear.length c9, .int .i64 r2.1.steps, .int .i64 r2.1.left, .int .u8 r2.1.torn, .bool r2.1.down]):: .res (zM yC 3 A9 c9 r2.1.wear):: .ro (SlL eu8 A3 c3 b_p2)::R) (fun _ w=>by rw [pE hl2]; exact w)<|.done<|.blkN<|.thenN<|.pr [0,1,21,22,23] rfl<|.region ?_;cases h1;exact .be rfl<|.ag ((some ⟨g4,0,none⟩),c8,A9,c9) hm1 rfl (zl [2] 0 rfl)
  refine .xq rfl ?_;cases h1;cases hd1 _ rfl
  exact .thenN<|.hereI s1.1 (A4,c4,A5,c5) rfl trivial (zl [0,0,0] 1 rfl)
 rintro o2 ⟨A6,c6,A7,c7⟩ ho;subst ho;have h:=unR h;refine .ae rfl ?_;cases h;exact .rv rfl rfl ⟨A6,c6,A7,c7,rfl,rfl⟩ (zl [2,1] 0 rfl)
theorem zUW:Ent Tryz.prog 240:=en Tryz.func240 (by kernel_rfl)
noncomputable def rL (d_p0:zA) (sector:Int):Option (zA × Int):=
 bif d_p0.down then (some (d_p0,10)) else (bnd ((bif decide (sector<0) then (some true) else (some (decide (sector≥(d_p0.wear.length:Int)))):Option Bool)) fun o1=>bif o1 then (some (d_p0,2)) else (bnd (elt d_p0.wear sector) fun x1=>bnd (sT d_p0.wear sector (IntKind.wrap .i64 (x1+1))) fun l1=>bnd (wW (⟨d_p0.size,d_p0.bytes,l1,d_p0.steps,d_p0.left,d_p0.torn,d_p0.down⟩:zA)) fun r1=>bnd ((bif r1.2 then (some r1.1.torn) else (some 255):Option Int)) fun o2=>bnd (mU r1.1.bytes.length (IntKind.wrap .i64 (sector*r1.1.size)) (IntKind.wrap .i64 ((IntKind.wrap .i64 (sector+1))*r1.1.size))) fun n1=>bnd (yE (τ:=zA) (fun (s1:zA × Int)=>bif decide (s1.2<(n1:Int)) then (bnd (zIt s1.1.bytes (Int.toNat (IntKind.wrap .i64 (sector*r1.1.size))) n1 s1.2) fun x2=>bnd (zIt s1.1.bytes (Int.toNat (IntKind.wrap .i64 (sector*r1.1.size))) n1 s1.2) fun x3=>bnd (sT s1.1.bytes (((Int.toNat (IntKind.wrap .i64 (sector*r1.1.size)):Nat):Int)+s1.2) (iOr .u8 x2 o2)) fun l2=>some (.next ((⟨s1.1.size,l2,s1.1.wear,s1.1.steps,s1.1.left,s1.1.torn,s1.1.down⟩:zA),IntKind.wrap .i64 (s1.2+1)))) else (some (.done s1.1))) (r1.1,0)) fun o3=>bif r1.2 then (some (o3,10)) else (some (o3,0))))
end Go.Proofs.YtplchdlgdjcojaaGreatDoor
end
section
namespace Go.Proofs.YtplchdlgdjcojaaGreatDoor
open Go
set_option linter.unusedVariables false
set_option maxHeartbeats 4000000
set_option maxRecDepth 4000
theorem aG {d_p0 sector A1 c1 A2 c2 gb1 r} (h:rL d_p0 sector=some r):
    Fun Tryz.prog 240 [.pointer (some ⟨gb1,0,none⟩), .int .i64 sector] [.res (Box gb1 131 (zG d_p0 A1 c1 A2 c2)), .res (zM eu8 5 A1 c1 d_p0.bytes), .res (zM yC 3 A2 c2 d_p0.wear)] (fun v F=>∃ A3 c3 A4 c4,v= .int .i64 r.2∧F= [.res (Box gb1 131 (zG r.1 A3 c3 A4 c4)), .res (zM eu8 5 A3 c3 r.1.bytes), .res (zM yC 3 A4 c4 r.1.wear)]):=by
 refine Fun.intro Tryz.func240 rfl rfl rfl fun w R=>?_;refine .ab [0,1] rfl<|.seq<|.block<|.a 3 rfl<|.lb 6 0 rfl<|.b [0,1,9] rfl<|.cb h rfl (fun h=>?_) (fun h=>?_)
 ·refine .ab [4] rfl ?_;cases h;exact .rv rfl rfl ⟨A1,c1,A2,c2,rfl,rfl⟩ zw
 refine .seq<|.bd h fun o1 hj1 h=>.cu 0 [0,1, .s 14 (.bool o1)] [] rfl rfl ?_ ?_
 ·refine .region<|.n 3 rfl<|.gs 17 hj1 rfl (fun hj1=>?_) (fun hj1=>?_)
  ·cases hj1;exact .be rfl<|.hU rfl zw
  refine .n 4 rfl<|.gOn rfl rfl<|.lb 2 0 rfl ?_;cases hj1;exact .be rfl<|.hU rfl zw
 refine .cb h rfl (fun h=>?_) (fun h=>?_)
 ·refine .ab [4] rfl ?_;cases h;exact .rv rfl rfl ⟨A1,c1,A2,c2,rfl,rfl⟩ zw
 refine .skip<|.blkN<|.thenN<|.pr [0,1] rfl<|.a 3 rfl<|.lb 2 0 rfl<|.p rfl rfl<|.bd h fun x1 hx1 h=>.ix2 hx1 2 rfl fun g1 hA=>?_;subst hA;refine .ldO 0 hx1 rfl rfl (zm 2 rfl) rfl rfl<|.p rfl rfl<|.ix2 hx1 2 rfl fun g2 hA=>?_;cases hA;refine .bd h fun l1 hl1 h=>.stO 0 hx1 hl1 rfl rfl (.s (.s .z)) rfl rfl rfl rfl rfl ?_;refine .ss 29 (uZ hl1)<|.asrt (F':=.res (zM yC 3 (some ⟨g1,0,none⟩) c2 l1):: .res (Box gb1 131 [.int .i64 d_p0.size, .slice A1 d_p0.bytes.length c1, .slice (some ⟨g1,0,none⟩) l1.length c2, .int .i64 d_p0.steps, .int .i64 d_p0.left, .int .u8 d_p0.torn, .bool d_p0.down]):: .res (zM eu8 5 A1 c1 d_p0.bytes)::R) (fun _ w=>by rw [pE hl1]; exact w)<|.b [0,1] rfl<|.a 1 rfl<|.bd h fun r1 hr1 h=>.ct 3 [] [1,1] 0 (iK hr1) zPO rfl fun A3 c3 A4 c4=>.b [0,1,5] rfl<|.ae rfl<|.seq<|.bd h fun o2 hj2 h=>.cu 0 [0,1,5, .s 6 (.int .u8 o2)] [] rfl rfl ?_ ?_
 ·refine .ae rfl<|.cb hj2 rfl (fun hj2=>?_) (fun hj2=>?_)
  ·refine .region<|.n 3 rfl<|.lb 5 0 rfl ?_;cases hj2;exact .be rfl<|.hU rfl zw
  cases hj2;exact .sk<|.hU rfl zw
 refine .seq<|.regionF mixed (by kernel_rfl)<|.n 3 rfl<|.lb 1 0 rfl<|.n 4 rfl<|.lb 0 0 rfl<|.n 6 rfl<|.lb 0 0 rfl<|.p rfl rfl<|.bd h fun n1 hn1 h=>.part (E:=eu8) hn1 rfl rfl (.tail _ (.head _)) rfl rfl rfl rfl rfl rfl rfl<|.bq [5,6,7] rfl<|.seq<|.ab [5,6,7,61,62] rfl<|.bd h fun o3 hl1 h=>.cutK 3 (fun (e4:Option Addr × Nat × Option Addr × Nat)=>[5]) (fun e4=>[.res (zM yC 3 e4.2.2.1 e4.2.2.2 o3.wear), .res (zM eu8 5 e4.1 e4.2.1 o3.bytes), .res (Box gb1 131 (zG o3 e4.1 e4.2.1 e4.2.2.1 e4.2.2.2))]) rfl rfl ?_ ?_
 ·refine .block<|.loopQ hl1 3 (fun (s1:zA × Int) (e3:Option Addr × Nat × Option Addr × Nat)=>[5,6, .s 7 (.slice (zDM e3.1 e3.2.1 (Int.toNat (IntKind.wrap .i64 (sector*r1.1.size))) 1) n1 (e3.2.1 - (Int.toNat (IntKind.wrap .i64 (sector*r1.1.size))))),61, .s 62 (.int .i64 s1.2)]) (fun s1 e3=>[.res (zM yC 3 e3.2.2.1 e3.2.2.2 s1.1.wear), .res (zM eu8 5 e3.1 e3.2.1 s1.1.bytes), .res (Box gb1 131 (zG s1.1 e3.1 e3.2.1 e3.2.2.1 e3.2.2.2))]) rfl rfl (A3,c3,A4,c4) (zb rfl) (zl [2,1] 0 rfl) ?_;rintro s1 ⟨A5,c5,A6,c6⟩ st1 hm1 hd1 h1;refine .ae rfl<|.seq<|.cb h1 rfl (fun h1=>?_) (fun h1=>?_)
  ·refine .sk<|.pr [5,6,7,61,62] rfl<|.seq<|.block<|.ab [5,6,7,8,61,62] rfl<|.region<|.n 2 rfl<|.bd h1 fun x2 hx2 h1=>.ixPt (E:=eu8) zBq hx2 rfl rfl rfl (.tail _ (.head _)) rfl rfl rfl rfl fun g3 hA=>?_;subst hA;refine .ldO 0 (zMB hx2) rfl rfl (.tail _ (.head _)) rfl rfl<|.n 2 rfl<|.bd h1 fun x3 hx3 h1=>.ixPt (E:=eu8) zBq hx3 rfl rfl rfl (.tail _ (.head _)) rfl rfl rfl rfl fun g4 hA=>?_;cases hA;refine .bd h1 fun l2 hl2 h1=>.stO 0 (zMB hx3) hl2 rfl rfl (.s .z) rfl rfl rfl rfl rfl<|.asrt (F':=.res (zM eu8 5 (some ⟨g3,0,none⟩) c5 l2):: .res (zM yC 3 A6 c6 s1.1.wear):: .res (Box gb1 131 [.int .i64 s1.1.size, .slice (some ⟨g3,0,none⟩) l2.length c5, .slice A6 s1.1.wear.length c6, .int .i64 s1.1.steps, .int .i64 s1.1.left, .int .u8 s1.1.torn, .bool s1.1.down])::R) (fun _ w=>by rw [pE hl2]; exact w)<|.done<|.blkN<|.thenN<|.pr [5,6,7,61,62] rfl<|.region ?_;cases h1;exact .be rfl<|.ag ((some ⟨g3,0,none⟩),c5,A6,c6) hm1 rfl (zl [1] 0 rfl)
  refine .xq rfl ?_;cases h1;cases hd1 _ rfl
  exact .thenN<|.hE (A5,c5,A6,c6) rfl zw
 rintro ⟨A7,c7,A8,c8⟩;refine .seq<|.ab [73] rfl<|.cb h rfl (fun h=>?_) (fun h=>?_)
 ·refine .ab [4] rfl ?_;cases h;exact .rv rfl rfl ⟨A7,c7,A8,c8,rfl,rfl⟩ (zl [2,1] 0 rfl)
 refine .sk<|.pr [] rfl<|.ae rfl ?_;cases h;exact .rv rfl rfl ⟨A7,c7,A8,c8,rfl,rfl⟩ (zl [2,1] 0 rfl)
theorem zVP:Ent Tryz.prog 260:=en Tryz.func260 (by kernel_rfl)
theorem zUR:Ent Tryz.prog 259:=en Tryz.func259 (by kernel_rfl)
theorem zWa:Ent Tryz.prog 241:=en Tryz.func241 (by kernel_rfl)
noncomputable def wU (v_p0:(Option (List (Int × (List Int))))):Option (List zE):=
 bnd (zDi v_p0) fun r1=>bnd (gA v_p0) fun r2=>bnd (yE (τ:=List zE) (fun (s1:List zE × Int)=>bif decide (s1.2<(r2.length:Int)) then (bnd (elt r2 s1.2) fun x1=>bnd (zQ ((vJ (zZ .u8).eq (v_p0.getD []) x1).getD [])) fun r3=>bnd (app 40 s1.1 [(⟨x1,r3,false⟩:zE)]) fun l1=>some (.next (l1,IntKind.wrap .i64 (s1.2+1)))) else (some (.done s1.1))) ([],0)) fun o1=>some o1
theorem fH {v_p0 M1 r} (h:wU v_p0=some r):
    Fun Tryz.prog 241 [.map M1] [.res (yO (zZ .u8) (cod eu8) M1 v_p0)] (fun v F=>∃ A1 c1,v= .slice A1 r.length c1∧F= [.res (yO (zZ .u8) (cod eu8) M1 v_p0), .res (xL (yL xK) 107 A1 c1 r)]):=by
 refine Fun.intro Tryz.func241 rfl rfl rfl fun w R=>?_;refine .ab [0] rfl<|.ae rfl<|.seq<|.a 1 rfl<|.bd h fun r1 hr1 h=>.call (zOy hr1) zVP rfl rfl rfl (fun _ w=>w) ?_;rintro _ _ ⟨g1,rfl,rfl⟩;refine .nm 2 rfl<|.bd h fun r2 hr2 h=>.cr 3 [] [] 0 (zJe hr2) zUR rfl fun A1 c1=>.bf [0,3,8,9,10] [] 1 rfl rfl<|.asrt (fun _ w=>w.nilC (yL xK) 107)<|.bd h fun o1 hl1 h=>.cutK 3 (fun (e2:Option Addr × Nat)=>[.s 3 (.slice e2.1 o1.length e2.2)]) (fun e2=>[.res (xL (yL xK) 107 e2.1 e2.2 o1),1]) rfl rfl ?_ ?_
 ·refine .block<|.loopQ hl1 1 (fun (s1:List zE × Int) (e1:Option Addr × Nat)=>[0, .s 3 (.slice e1.1 s1.1.length e1.2),8,9, .s 10 (.int .i64 s1.2)]) (fun s1 e1=>[.res (xL (yL xK) 107 e1.1 e1.2 s1.1)]) rfl rfl (none,0) (zb rfl) (fun _ w=>w) ?_;rintro s1 ⟨A2,c2⟩ st1 hm1 hd1 h1;refine .ae rfl<|.seq<|.cb h1 rfl (fun h1=>?_) (fun h1=>?_)
  ·refine .sk<|.pr [0,3,8,9,10] rfl<|.seq<|.block<|.seq<|.region<|.bd h1 fun x1 hx1 h1=>.ix2 hx1 2 rfl fun g2 hA=>?_;subst hA;refine .ldO 0 hx1 rfl rfl (zm 2 rfl) rfl rfl<|.b [0,3,5,8,9,10] rfl<|.region<|.n 4 rfl<|.lookupV (K:=(zZ .u8)) (E:=(cod eu8)) x1 rfl rfl rfl (.tail _ (.head _)) rfl rfl rfl rfl rfl rfl fun A4 c4=>.bd h1 fun r3 hr3 h1=>.cr 5 [0] [] 0 (yK hr3) bB rfl fun A5 c5=>.p rfl rfl<|.bS rfl fun g3=>.bd h1 fun l1 hl1 h1=>.asrt (fun _ w=>(w.sl [1] 0 rfl).meltL)<|.appC (E:=(yL xK)) hl1 rfl rfl rfl (.s (.s (.s .z))) rfl rfl rfl rfl rfl rfl rfl rfl (zFK (ls:=xK) [((⟨x1,r3,false⟩:zE),((A5,c5),()))] (.tail _ (.head _)) rfl rfl rfl ⟨(.head _),trivial⟩) rfl rfl fun A6 c6=>.p rfl rfl<|.done<|.blkN<|.thenN<|.pf [0,3,8,9,10] [0] 3 rfl rfl<|.region ?_;cases h1;exact .be rfl<|.ag (A6,c6) hm1 rfl zw
  refine .xq rfl ?_;cases h1;cases hd1 _ rfl
  exact .thenN<|.hE (A2,c2) rfl (zl [0,0] 1 rfl)
 rintro ⟨A3,c3⟩;refine .ab [2] rfl ?_;cases h;exact .rv rfl rfl ⟨A3,c3,rfl,rfl⟩ (zl [1] 0 rfl)
theorem zWe:Ent Tryz.prog 192:=en Tryz.func192 (by kernel_rfl)
noncomputable def uK (s_p0:zD) (next:(Option (List (Int × (List Int))))) (s_p0_d:zA):Option (zD × zA × Int):=
 bif (s_p0.generation==2147483648) then (some (s_p0,s_p0_d,3)) else (bnd ((bif (s_p0.active==0) then (some 1) else (some 0):Option Int)) fun o1=>bnd (dP s_p0.d) fun bb1=>bnd (yG s_p0_d) fun r1=>bnd (dP s_p0.d) fun bb2=>bnd (yG s_p0_d) fun r2=>bnd (uD s_p0_d (IntKind.wrap .i64 ((IntKind.wrap .i64 (s_p0.first+o1))*r1)) r2) fun r3=>bnd ((bnd ((bif (r3.2.2==0) then (bnd (qI r3.2.1) fun r4=>some (!r4)) else (some false):Option Bool)) fun o3=>bif o3 then (bnd (dP s_p0.d) fun bb3=>bnd (rL r3.1 (IntKind.wrap .i64 (s_p0.first+o1))) fun r5=>some (r5.2,r5.1)) else (some (r3.2.2,r3.1)):Option (Int × zA))) fun o2=>bnd ((bif (o2.1==0) then (bnd (dP s_p0.d) fun bb4=>bnd (wH o2.2 (IntKind.wrap .i64 ((IntKind.wrap .i64 (s_p0.first+o1))*r1)) ([IntKind.wrap .u8 (IntKind.wrap .i64 (s_p0.generation+1)),IntKind.wrap .u8 (vY .i64 (IntKind.wrap .i64 (s_p0.generation+1)) 8),IntKind.wrap .u8 (vY .i64 (IntKind.wrap .i64 (s_p0.generation+1)) 16),IntKind.wrap .u8 (vY .i64 (IntKind.wrap .i64 (s_p0.generation+1)) 24)])) fun r6=>some (r6.2,r6.1)) else (some (o2.1,o2.2)):Option (Int × zA))) fun o4=>bnd ((bnd ((bif (o4.1==0) then (some (decide ((((next.getD []).length:Nat):Int)>0))) else (some false):Option Bool)) fun o6=>bif o6 then (bnd (wU next) fun r7=>bnd (rK r7) fun r8=>bnd (dP s_p0.d) fun bb5=>bnd (wH o4.2 (IntKind.wrap .i64 ((IntKind.wrap .i64 ((IntKind.wrap .i64 (s_p0.first+o1))*r1))+5)) r8) fun r9=>some (IntKind.wrap .i64 (5+(r8.length:Int)),r9.2,r9.1)) else (some (5,o4.1,o4.2)):Option (Int × Int × zA))) fun o5=>bnd ((bif (o5.2.1==0) then (bnd (dP s_p0.d) fun bb6=>bnd (wH o5.2.2 (IntKind.wrap .i64 ((IntKind.wrap .i64 ((IntKind.wrap .i64 (s_p0.first+o1))*r1))+4)) ([0])) fun r10=>some (r10.2,r10.1)) else (some (o5.2.1,o5.2.2)):Option (Int × zA))) fun o7=>bif (o7.1==0) then (some ((⟨s_p0.d,s_p0.first,o1,IntKind.wrap .i64 (s_p0.generation+1),next,o5.1,true,s_p0.ended⟩:zD),o7.2,o7.1)) else (some (s_p0,o7.2,o7.1)))
theorem bJ {s_p0 next s_p0_d A1 c1 A2 c2 M1 M2 gb1 gb2 r} (h:uK s_p0 next s_p0_d=some r):
    Fun Tryz.prog 192 [.pointer (some ⟨gb1,0,none⟩), .map M2] [.res (Box gb1 135 (zN s_p0 gb2 M1)), .res (yO (zZ .u8) (cod eu8) M1 s_p0.all), .res (yO (zZ .u8) (cod eu8) M2 next), .res (Box gb2 131 (zG s_p0_d A1 c1 A2 c2)), .res (zM eu8 5 A1 c1 s_p0_d.bytes), .res (zM yC 3 A2 c2 s_p0_d.wear)] (fun v F=>∃ M3 A3 c3 A4 c4,v= .int .i64 r.2.2∧F= [.res (Box gb1 135 (zN r.1 gb2 M3)), .res (yO (zZ .u8) (cod eu8) M3 r.1.all), .res (Box gb2 131 (zG r.2.1 A3 c3 A4 c4)), .res (zM eu8 5 A3 c3 r.2.1.bytes), .res (zM yC 3 A4 c4 r.2.1.wear)]):=by
 refine Fun.intro Tryz.func192 rfl rfl rfl fun w R=>?_;refine .ab [0,1] rfl<|.seq<|.a 3 rfl<|.lb 3 0 rfl<|.b [0,1,16] rfl<|.cb h rfl (fun h=>?_) (fun h=>?_)
 ·refine .ab [4] rfl ?_;cases h;exact .rv rfl rfl ⟨M1,A1,c1,A2,c2,rfl,rfl⟩ (zl [0,0] 1 rfl)
 refine .sk<|.pr [0,1] rfl<|.seq<|.regionF mixed (by kernel_rfl)<|.n 3 rfl<|.lb 3 0 rfl<|.bq [0,1,5,6,7] rfl<|.seq<|.bd h fun o1 hj1 h=>.cu 0 [0,1, .s 5 (.int .i64 o1),6,7] [] rfl rfl ?_ ?_
 ·refine .a 3 rfl<|.lb 2 0 rfl<|.b [0,1,5,6,7,26] rfl<|.cb hj1 rfl (fun hj1=>?_) (fun hj1=>?_)
  ·refine .region ?_;cases hj1;exact .be rfl<|.hU rfl zw
  cases hj1;exact .sk<|.hU rfl zw
 refine .seq<|.regionX (iN [0,4,8,12,16,20,24,28,32,37,43,44,48] .nil) _ mixed (by kernel_rfl) zw<|.yn 3 rfl<|.yl 1 0 rfl<|.yn 5 rfl<|.yx 0 0 rfl<|.xef<|.bd h fun bb1 hbb1 h=>?_;refine .ss 36 (lN hbb1)<|.bd h fun r1 hr1 h=>.cq 6 [] [3,3,3] 0 (wY hr1) zFL rfl<|.xk (zl [3,3,3] 0 rfl)<|.yn 2 rfl<|.xdone<|.thenN<|.pr [0,1,5,6,7,8] rfl<|.seq<|.regionX (iN [0,4,8,12,16,20,24,28,33,39,43,44,48,52,56,60] .nil) _ mixed (by kernel_rfl) (zl [] 3 rfl)<|.yn 3 rfl<|.yl 0 0 rfl<|.yn 4 rfl<|.yx 0 3 rfl<|.xef<|.bd h fun bb2 hbb2 h=>?_;refine .ss 43 (lN hbb2) ?_;refine .ss 48 (lN hbb2)<|.bd h fun r2 hr2 h=>.cq 6 [] [] 0 (wY hr2) zFL rfl<|.xk (zl [] 3 rfl)<|.xef<|.bd h fun r3 hr3 h=>.call (iM hr3) zTW rfl rfl rfl (fun _ w=>w) ?_;rintro _ _ ⟨A3,c3,A4,c4,A5,c5,rfl,rfl⟩;refine .nm 7 rfl<|.xk (zl [] 4 rfl)<|.yn 5 rfl<|.xdone<|.thenN<|.pr [0,1,5,6,7,8,9,10] rfl<|.seq<|.bd h fun o2 hj2 h=>.cutK 4 (fun (e2:Option Addr × Nat × Option Addr × Nat)=>[0,1,5,6,7,8, .s 10 (.int .i64 o2.1)]) (fun e2=>[.res (zM yC 3 e2.2.2.1 e2.2.2.2 o2.2.wear), .res (zM eu8 5 e2.1 e2.2.1 o2.2.bytes), .res (Box gb2 131 (zG o2.2 e2.1 e2.2.1 e2.2.2.1 e2.2.2.2))]) rfl rfl ?_ ?_
 ·refine .seq<|.bd hj2 fun o3 hj3 hj2=>.cu 4 [0,1,5,6,7,8,10, .s 59 (.bool o3)] [0,1,2] rfl rfl ?_ ?_
  ·refine .region<|.n 3 rfl<|.gs 55 hj3 rfl (fun hj3=>?_) (fun hj3=>?_)
   ·refine .n 1 rfl<|.gOn rfl rfl<|.asrt (fun _ w=>(w.sl [3] 0 rfl).meltL)<|.bd hj3 fun r4 hr4 hj3=>.cv [0] (eT hr4) zQU rfl ?_;cases hj3;exact .be rfl<|.hU rfl (zl [] 1 rfl)
   cases hj3;exact .be rfl<|.hU rfl (zl [0,0,0] 1 rfl)
  refine .cb hj2 rfl (fun hj2=>?_) (fun hj2=>?_)
  ·refine .regionX (iN [0,4,8,13,16,20,24,29,32,36,43,44] .nil) _ mixed (by kernel_rfl) (zl [] 3 rfl)<|.yn 3 rfl<|.yx 0 3 rfl<|.yn 3 rfl<|.yx 1 3 rfl<|.yn 2 rfl<|.xef<|.bd hj2 fun bb3 hbb3 hj2=>?_;refine .ss 63 (lN hbb3)<|.bd hj2 fun r5 hr5 hj2=>.ct 6 [] [] 0 (aG hr5) zUW rfl fun A8 c8 A9 c9=>.xk (zl [] 3 rfl)<|.yn 1 rfl<|.xdone ?_;cases hj2;exact .thenN<|.hE (A8,c8,A9,c9) rfl (zl [2,1] 0 rfl)
  cases hj2;exact .sk<|.hE (A3,c3,A4,c4) rfl (zl [2,1] 0 rfl)
 rintro ⟨A6,c6,A7,c7⟩;refine .seq<|.bd h fun o4 hj4 h=>.cutK 3 (fun (e4:Option Addr × Nat × Option Addr × Nat)=>[0,1,5,6,7,8, .s 10 (.int .i64 o4.1)]) (fun e4=>[.res (zM yC 3 e4.2.2.1 e4.2.2.2 o4.2.wear), .res (zM eu8 5 e4.1 e4.2.1 o4.2.bytes), .res (Box gb2 131 (zG o4.2 e4.1 e4.2.1 e4.2.2.1 e4.2.2.2))]) rfl rfl ?_ ?_
 ·refine .ab [0,1,5,6,7,8,10,72] rfl<|.cb hj4 rfl (fun hj4=>?_) (fun hj4=>?_)
  ·refine .region<|.n 3 rfl<|.lb 0 3 rfl<|.n 12 rfl<|.bS rfl fun g1=>.bd hj4 fun bb4 hbb4 hj4=>?_;refine .ss 76 (lN hbb4)<|.asrt (fun _ w=>w.litL (E:=eu8) (e:=5) [IntKind.wrap .u8 (IntKind.wrap .i64 (s_p0.generation+1)),IntKind.wrap .u8 (vY .i64 (IntKind.wrap .i64 (s_p0.generation+1)) 8),IntKind.wrap .u8 (vY .i64 (IntKind.wrap .i64 (s_p0.generation+1)) 16),IntKind.wrap .u8 (vY .i64 (IntKind.wrap .i64 (s_p0.generation+1)) 24)] rfl rfl)<|.asrt (fun _ w=>w.meltL)<|.bd hj4 fun r6 hr6 hj4=>.ct 7 [3] [3,2,1] 0 (tR hr6) zJa rfl fun A12 c12 A13 c13=>?_;cases hj4;exact .be rfl<|.hE (A12,c12,A13,c13) rfl (zl [2,1,0] 1 rfl)
  cases hj4;exact .sk<|.hE (A6,c6,A7,c7) rfl zw
 rintro ⟨A10,c10,A11,c11⟩;refine .seq<|.bd h fun o5 hj5 h=>.cutK 3 (fun (e5:Option Addr × Nat × Option Addr × Nat)=>[0,1,5,6, .s 7 (.int .i64 o5.1),8, .s 10 (.int .i64 o5.2.1)]) (fun e5=>[.res (zM yC 3 e5.2.2.1 e5.2.2.2 o5.2.2.wear), .res (zM eu8 5 e5.1 e5.2.1 o5.2.2.bytes), .res (Box gb2 131 (zG o5.2.2 e5.1 e5.2.1 e5.2.2.1 e5.2.2.2))]) rfl rfl ?_ ?_
 ·refine .seq<|.bd hj5 fun o6 hj6 hj5=>.cu 0 [0,1,5,6,7,8,10, .s 97 (.bool o6)] [] rfl rfl ?_ ?_
  ·refine .region<|.n 3 rfl<|.gs 93 hj6 rfl (fun hj6=>?_) (fun hj6=>?_)
   ·refine .n 1 rfl<|.gOn rfl rfl<|.mapLenV (K:=(zZ .u8)) (E:=(cod eu8)) rfl rfl (zm 5 rfl) rfl rfl rfl ?_;cases hj6;exact .be rfl<|.hU rfl zw
   cases hj6;exact .be rfl<|.hU rfl zw
  refine .cb hj5 rfl (fun hj5=>?_) (fun hj5=>?_)
  ·refine .a 1 rfl<|.bd hj5 fun r7 hr7 hj5=>.cr 7 [] [5] 0 (fH hr7) zWa rfl fun A16 c16=>.asrt (fun _ w=>(w.sl [1] 0 rfl).meltC)<|.bd hj5 fun r8 hr8 hj5=>.cr 8 [0] [] 0 (fM hr8) zRw rfl fun A17 c17=>.bf [0,1,5,6,7,8,11] [0] 1 rfl rfl<|.ab [0,1,5,6,7,8,11] rfl<|.region<|.n 3 rfl<|.lb 0 5 rfl<|.n 3 rfl<|.bd hj5 fun bb5 hbb5 hj5=>?_;refine .ss 108 (lN hbb5)<|.asrt (fun _ w=>w.meltL)<|.bd hj5 fun r9 hr9 hj5=>.ct 7 [3] [4,3,2] 0 (tR hr9) zJa rfl fun A18 c18 A19 c19=>?_;cases hj5;exact .be rfl<|.hE (A18,c18,A19,c19) rfl (zl [2,1,0,2,2] 1 rfl)
  cases hj5;exact .sk<|.hE (A10,c10,A11,c11) rfl zw
 rintro ⟨A14,c14,A15,c15⟩;refine .seq<|.bd h fun o7 hj7 h=>.cutK 3 (fun (e7:Option Addr × Nat × Option Addr × Nat)=>[0,1,5,6,7, .s 10 (.int .i64 o7.1)]) (fun e7=>[.res (zM yC 3 e7.2.2.1 e7.2.2.2 o7.2.wear), .res (zM eu8 5 e7.1 e7.2.1 o7.2.bytes), .res (Box gb2 131 (zG o7.2 e7.1 e7.2.1 e7.2.2.1 e7.2.2.2))]) rfl rfl ?_ ?_
 ·refine .ab [0,1,5,6,7,8,10,114] rfl<|.cb hj7 rfl (fun hj7=>?_) (fun hj7=>?_)
  ·refine .region<|.n 3 rfl<|.lb 0 3 rfl<|.n 2 rfl<|.bS rfl fun g2=>.bd hj7 fun bb6 hbb6 hj7=>?_;refine .ss 118 (lN hbb6)<|.asrt (fun _ w=>w.litL (E:=eu8) (e:=5) [0] rfl rfl)<|.asrt (fun _ w=>w.meltL)<|.bd hj7 fun r10 hr10 hj7=>.ct 7 [3] [3,2,1] 0 (tR hr10) zJa rfl fun A22 c22 A23 c23=>?_;cases hj7;exact .be rfl<|.hE (A22,c22,A23,c23) rfl (zl [2,1,0] 1 rfl)
  cases hj7;exact .sk<|.hE (A14,c14,A15,c15) rfl zw
 rintro ⟨A20,c20,A21,c21⟩;refine .seq<|.ab [0,1,5,6,7,10,124] rfl<|.cb h rfl (fun h=>?_) (fun h=>?_)
 ·refine .region<|.n 11 rfl<|.sb 2 3 rfl<|.n 2 rfl<|.sb 3 0 rfl<|.n 2 rfl<|.sb 4 0 rfl<|.n 2 rfl<|.sb 5 0 rfl<|.n 2 rfl<|.sb 6 0 rfl<|.bf [10] [0,0,0,0] 1 rfl rfl<|.ab [4] rfl ?_;cases h;exact .rv rfl rfl ⟨M2,A20,c20,A21,c21,rfl,rfl⟩ (zl [0,3,2,1] 0 rfl)
 refine .sk<|.pr [10] rfl<|.ab [4] rfl ?_;cases h;exact .rv rfl rfl ⟨M1,A20,c20,A21,c21,rfl,rfl⟩ (zl [3,3,2,1,0] 1 rfl)
theorem zSh:Ent Tryz.prog 105:=en Tryz.func105 (by kernel_rfl)
noncomputable def yB (s_p0:zD) (l_p1:(List zE)) (s_p0_d:zA):Option (zD × zA × Int):=
 bnd ((bif s_p0.ended then (some true) else (bnd (dP s_p0.d) fun bb1=>bnd (rW s_p0_d) fun r1=>some r1):Option Bool)) fun o1=>bif o1 then (some ((⟨false,0,0,0,none,0,false,true⟩:zD),s_p0_d,10)) else (bnd (oU l_p1) fun r2=>bnd ((bif (r2 != 0) then (some true) else (some ((l_p1.length:Int)==0)):Option Bool)) fun o2=>bif o2 then (some (s_p0,s_p0_d,r2)) else (bnd (wN s_p0.all l_p1) fun r3=>bif decide ((((r3.getD []).length:Nat):Int)>32) then (some (s_p0,s_p0_d,3)) else (bnd (rK l_p1) fun r4=>bnd ((bif decide (s_p0.active≥0) then (bif s_p0.clean then (bnd (dP s_p0.d) fun bb2=>bnd (yG s_p0_d) fun r5=>some (decide ((r4.length:Int)≤(IntKind.wrap .i64 (r5 - s_p0.tail))))) else (some false)) else (some false):Option Bool)) fun o3=>bif o3 then (bnd (dP s_p0.d) fun bb3=>bnd (yG s_p0_d) fun r6=>bnd (wH s_p0_d (IntKind.wrap .i64 ((IntKind.wrap .i64 ((IntKind.wrap .i64 (s_p0.first+s_p0.active))*r6))+s_p0.tail)) r4) fun r7=>bif (r7.2==0) then (bif (r7.2==10) then (some ((⟨false,0,0,0,none,0,false,true⟩:zD),r7.1,r7.2)) else (some ((⟨s_p0.d,s_p0.first,s_p0.active,s_p0.generation,r3,IntKind.wrap .i64 (s_p0.tail+(r4.length:Int)),s_p0.clean,s_p0.ended⟩:zD),r7.1,r7.2))) else (bif (r7.2==10) then (some ((⟨false,0,0,0,none,0,false,true⟩:zD),r7.1,r7.2)) else (some (s_p0,r7.1,r7.2)))) else (bnd (uK s_p0 r3 s_p0_d) fun r8=>bif (r8.2.2==10) then (some ((⟨false,0,0,0,none,0,false,true⟩:zD),r8.2.1,r8.2.2)) else (some (r8.1,r8.2.1,r8.2.2))))))
theorem mV {s_p0 l_p1 s_p0_d A1 c1 A2 c2 A3 c3 M1 gb1 gb2 r} (h:yB s_p0 l_p1 s_p0_d=some r):
    Fun Tryz.prog 105 [.pointer (some ⟨gb1,0,none⟩), .slice A1 l_p1.length c1] [.ro (Sl (yL xK) A1 c1 l_p1), .res (Box gb1 135 (zN s_p0 gb2 M1)), .res (yO (zZ .u8) (cod eu8) M1 s_p0.all), .res (Box gb2 131 (zG s_p0_d A2 c2 A3 c3)), .res (zM eu8 5 A2 c2 s_p0_d.bytes), .res (zM yC 3 A3 c3 s_p0_d.wear)] (fun v F=>∃ M2 A4 c4 A5 c5,v= .int .i64 r.2.2∧F= [.res (Box gb1 135 (zN r.1 gb2 M2)), .res (yO (zZ .u8) (cod eu8) M2 r.1.all), .res (Box gb2 131 (zG r.2.1 A4 c4 A5 c5)), .res (zM eu8 5 A4 c4 r.2.1.bytes), .res (zM yC 3 A5 c5 r.2.1.wear)]):=by
 refine Fun.intro Tryz.func105 rfl rfl rfl fun w R=>?_;refine .ab [0,1] rfl<|.seq<|.seq<|.bd h fun o1 hj1 h=>.cu 0 [0,1, .s 19 (.bool o1)] [] rfl rfl ?_ ?_
 ·refine .region<|.n 3 rfl<|.lb 7 1 rfl<|.p rfl rfl<|.gs 13 hj1 rfl (fun hj1=>?_) (fun hj1=>?_)
  ·cases hj1;exact .be rfl<|.hU rfl zw
  refine .n 3 rfl<|.gOn rfl rfl<|.lb 0 1 rfl<|.gOn rfl rfl<|.bd hj1 fun bb1 hbb1 hj1=>?_;refine .ss 17 (lN hbb1)<|.bd hj1 fun r1 hr1 hj1=>.cq 6 [] [3,3,3] 0 (zAx hr1) zWg rfl ?_;cases hj1;exact .be rfl<|.hU rfl (zl [3,3,3] 0 rfl)
 refine .cb h rfl (fun h=>?_) (fun h=>?_)
 ·refine .a 3 rfl<|.sb 0 1 rfl<|.bf [] [0] 2 rfl rfl<|.ae rfl<|.asrt (fun _ w=>w.nilV (zZ .u8) (cod eu8)) ?_;cases h;exact .rv rfl rfl ⟨none,A2,c2,A3,c3,rfl,rfl⟩ (zl [1] 0 rfl)
 refine .sk<|.pr [0,1] rfl<|.seq<|.a 1 rfl<|.bd h fun r2 hr2 h=>.cv [0] (zDh hr2) zUE rfl<|.b [0,1,5] rfl<|.seq<|.bd h fun o2 hj2 h=>.cu 0 [0,1,5, .s 31 (.bool o2)] [] rfl rfl ?_ ?_
 ·refine .region<|.n 3 rfl<|.gs 27 hj2 rfl (fun hj2=>?_) (fun hj2=>?_)
  ·cases hj2;exact .be rfl<|.hU rfl zw
  cases hj2;exact .be rfl<|.hU rfl zw
 refine .cb h rfl (fun h=>?_) (fun h=>?_)
 ·refine .abf [4] [] 1 rfl rfl ?_;cases h;exact .rv rfl rfl ⟨M1,A2,c2,A3,c3,rfl,rfl⟩ zw
 refine .sk<|.pr [0,1] rfl<|.a 3 rfl<|.lb 4 1 rfl<|.p rfl rfl<|.bd h fun r3 hr3 h=>.call (nV hr3) zRl rfl rfl rfl (zd [1] [2] 0 rfl) ?_;rintro _ _ ⟨M2,rfl,rfl⟩;refine .nm 7 rfl<|.b [0,1,6] rfl<|.seq<|.a 1 rfl<|.mapLenV (K:=(zZ .u8)) (E:=(cod eu8)) rfl rfl (.tail _ (.head _)) rfl rfl rfl<|.b [0,1,6,41] rfl<|.cb h rfl (fun h=>?_) (fun h=>?_)
 ·refine .abf [4] [0] 2 rfl rfl ?_;cases h;exact .rv rfl rfl ⟨M1,A2,c2,A3,c3,rfl,rfl⟩ (zl [1] 0 rfl)
 refine .sk<|.pr [0,1,6] rfl<|.a 1 rfl<|.bd h fun r4 hr4 h=>.cr 8 [2] [] 0 (fM hr4) zRw rfl fun A4 c4=>.bf [0,6,7] [0,0,0] 1 rfl rfl<|.ab [0,6,7] rfl<|.seq<|.seq<|.bd h fun o3 hj3 h=>.cu 0 [0,6,7, .s 69 (.bool o3)] [] rfl rfl ?_ ?_
 ·refine .regionX (iN [0,4,8,13,16,20,24,28,32,37,40,44,48,52,56,60,64,69,76,80,84,88,75,92,96,100] .nil) _ mixed (by kernel_rfl) zw<|.yn 3 rfl<|.yx 2 3 rfl<|.yn 2 rfl<|.sB 49 hj3 rfl (fun hj3=>?_) (fun hj3=>?_)
  ·refine .yn 3 rfl<|.xgOn rfl rfl<|.yx 6 3 rfl<|.yn 2 rfl<|.sB 55 hj3 rfl (fun hj3=>?_) (fun hj3=>?_)
   ·refine .yn 5 rfl<|.xgOn rfl rfl<|.yx 0 3 rfl<|.yn 3 rfl<|.xgOn rfl rfl<|.yl 5 3 rfl<|.xgOn rfl rfl<|.xef<|.bd hj3 fun bb2 hbb2 hj3=>?_;refine .ss 61 (lN hbb2)<|.bd hj3 fun r5 hr5 hj3=>.cq 7 [] [4,4,4] 0 (wY hr5) zFL rfl<|.xk (zl [3,3,3,3] 0 rfl)<|.yn 3 rfl<|.xdone ?_;cases hj3;exact .thenN<|.hU rfl (zl [3,3,3,3] 0 rfl)
   refine .yn 14 rfl<|.xdone ?_;cases hj3;exact .thenN<|.hU rfl zw
  refine .yn 20 rfl<|.xdone ?_;cases hj3;exact .thenN<|.hU rfl zw
 refine .cb h rfl (fun h=>?_) (fun h=>?_)
 ·refine .seq<|.regionX (iN [0,4,8,12,16,20,24,28,32,36,40,44,48,52,56,60,65,76,80,84,88,96,71,72,92,103,104] .nil) _ mixed (by kernel_rfl) (zl [1,1,1] 4 rfl)<|.yn 3 rfl<|.yl 0 2 rfl<|.yn 3 rfl<|.yl 1 2 rfl<|.yn 3 rfl<|.yl 2 2 rfl<|.yn 4 rfl<|.yx 0 3 rfl<|.yn 3 rfl<|.yl 5 2 rfl<|.yn 1 rfl<|.xef<|.bd h fun bb3 hbb3 h=>?_;refine .ss 73 (lN hbb3) ?_;refine .ss 86 (lN hbb3)<|.bd h fun r6 hr6 h=>.cq 7 [] [4,4,4] 0 (wY hr6) zFL rfl<|.xk (zl [] 4 rfl)<|.yn 2 rfl<|.xef<|.asrt (fun _ w=>(w.sl [3] 0 rfl).meltL)<|.bd h fun r7 hr7 h=>.ct 7 [3] [1,1,1] 0 (tR hr7) zJa rfl fun A5 c5 A6 c6=>.xk (zl [] 4 rfl)<|.yn 1 rfl<|.xdone<|.thenN<|.pr [0,6,7,8] rfl<|.ab [0,6,7,8,97] rfl<|.cb h rfl (fun h=>?_) (fun h=>?_)
  ·refine .region<|.n 6 rfl<|.lb 5 6 rfl<|.n 5 rfl<|.sb 4 6 rfl<|.n 2 rfl<|.sb 5 0 rfl<|.bf [0,8] [0,0,0,0] 2 rfl rfl<|.seq<|.ab [0,8,116] rfl<|.cb h rfl (fun h=>?_) (fun h=>?_)
   ·refine .region<|.n 3 rfl<|.sb 0 0 rfl<|.bf [8] [0,0,0,0] 1 rfl rfl<|.ab [4] rfl<|.asrt (fun _ w=>w.nilV (zZ .u8) (cod eu8)) ?_;cases h;exact .rv rfl rfl ⟨none,A5,c5,A6,c6,rfl,rfl⟩ (zl [1] 0 rfl)
   refine .sk<|.pr [8] rfl<|.ab [4] rfl ?_;cases h;exact .rv rfl rfl ⟨M2,A5,c5,A6,c6,rfl,rfl⟩ (zl [0,3] 0 rfl)
  refine .sk<|.pf [0,8] [0,0,0,1] 2 rfl rfl<|.seq<|.ab [0,8,116] rfl<|.cb h rfl (fun h=>?_) (fun h=>?_)
  ·refine .region<|.n 3 rfl<|.sb 0 4 rfl<|.bf [8] [0,0,0,0] 1 rfl rfl<|.ab [4] rfl<|.asrt (fun _ w=>w.nilV (zZ .u8) (cod eu8)) ?_;cases h;exact .rv rfl rfl ⟨none,A5,c5,A6,c6,rfl,rfl⟩ (zl [1] 0 rfl)
  refine .sk<|.pr [8] rfl<|.ab [4] rfl ?_;cases h;exact .rv rfl rfl ⟨M1,A5,c5,A6,c6,rfl,rfl⟩ (zl [4,3] 0 rfl)
 refine .region<|.n 2 rfl<|.bd h fun r8 hr8 h=>.call (bJ (gb1:=gb1) (gb2:=gb2) hr8) zWe rfl rfl rfl (zl [3,1,1,1,1,1] 0 rfl) ?_;rintro _ _ ⟨M3,A7,c7,A8,c8,rfl,rfl⟩;refine .nm 6 rfl<|.bf [0,8] [0,0,0,0,0] 1 rfl rfl<|.seq<|.ab [0,8,116] rfl<|.cb h rfl (fun h=>?_) (fun h=>?_)
 ·refine .region<|.n 3 rfl<|.sb 0 0 rfl<|.bf [8] [0] 1 rfl rfl<|.ab [4] rfl<|.asrt (fun _ w=>w.nilV (zZ .u8) (cod eu8)) ?_;cases h;exact .rv rfl rfl ⟨none,A7,c7,A8,c8,rfl,rfl⟩ (zl [1] 0 rfl)
 refine .sk<|.pr [8] rfl<|.ab [4] rfl ?_;cases h;exact .rv rfl rfl ⟨M3,A7,c7,A8,c8,rfl,rfl⟩ zw
theorem zUX:Ent Tryz.prog 226:=en Tryz.func226 (by kernel_rfl)
noncomputable def qG (s_p0:zD) (key:Int) (s_p0_d:zA):Option (zD × zA × Int):=
 bnd (yB s_p0 ([(⟨key, [],true⟩:zE)]) s_p0_d) fun r1=>some (r1.1,r1.2.1,r1.2.2)
theorem eU {s_p0 key s_p0_d A1 c1 A2 c2 M1 gb1 gb2 r} (h:qG s_p0 key s_p0_d=some r):
    Fun Tryz.prog 226 [.pointer (some ⟨gb1,0,none⟩), .int .u8 key] [.res (Box gb1 135 (zN s_p0 gb2 M1)), .res (yO (zZ .u8) (cod eu8) M1 s_p0.all), .res (Box gb2 131 (zG s_p0_d A1 c1 A2 c2)), .res (zM eu8 5 A1 c1 s_p0_d.bytes), .res (zM yC 3 A2 c2 s_p0_d.wear)] (fun v F=>∃ M2 A3 c3 A4 c4,v= .int .i64 r.2.2∧F= [.res (Box gb1 135 (zN r.1 gb2 M2)), .res (yO (zZ .u8) (cod eu8) M2 r.1.all), .res (Box gb2 131 (zG r.2.1 A3 c3 A4 c4)), .res (zM eu8 5 A3 c3 r.2.1.bytes), .res (zM yC 3 A4 c4 r.2.1.wear)]):=by
 refine Fun.intro Tryz.func226 rfl rfl rfl fun w R=>?_;refine .ab [0,1] rfl<|.a 3 rfl<|.bS rfl fun g1=>.asrt (fun _ w=>w.nilSl (cod eu8))<|.asrt (fun _ w=>Sat.litC (ls:=xK) (e:=107) [((⟨key, [],true⟩:zE),((none,0),()))] rfl rfl rfl ⟨(.head _),trivial⟩ (w.sl [1] 0 rfl))<|.asrt (fun _ w=>w.meltC)<|.bd h fun r1 hr1 h=>.call (mV (gb1:=gb1) (gb2:=gb2) hr1) zSh rfl rfl rfl (zd [5] [2,2,2,2,2] 0 rfl) ?_;rintro _ _ ⟨M2,A3,c3,A4,c4,rfl,rfl⟩;refine .nm 7 rfl<|.bf [4] [0,0,0,0,0] 2 rfl rfl ?_;cases h;exact .rv rfl rfl ⟨M2,A3,c3,A4,c4,rfl,rfl⟩ zw
theorem zLJ:Ent Tryz.prog 148:=en Tryz.func148 (by kernel_rfl)
noncomputable def uO (a_p0:zC) (a_p0_store:zD) (a_p0_store_d:zA):Option (zC × zD × zA × Int):=
 bnd (dP a_p0.store) fun bb1=>bnd (qG a_p0_store 32 a_p0_store_d) fun r1=>bif (r1.2.2 != 0) then (some (a_p0,r1.1,r1.2.1,r1.2.2)) else (some ((⟨a_p0.store,a_p0.devices,a_p0.needs,0,a_p0.load,a_p0.before, []⟩:zC),r1.1,r1.2.1,0))
theorem mI {a_p0 a_p0_store a_p0_store_d A1 c1 A2 c2 A3 c3 A4 c4 A5 c5 A6 c6 A7 c7 M1 gb1 gb2 gb3 r} (h:uO a_p0 a_p0_store a_p0_store_d=some r):
    Fun Tryz.prog 148 [.pointer (some ⟨gb1,0,none⟩)] [.ro (SlL zP A2 c2 a_p0.needs), .ro (SlL yR A3 c3 a_p0.load.Have), .ro (SlL eu8 A4 c4 a_p0.load.Data), .ro (SlL yC A5 c5 a_p0.order), .res (Box gb1 144 (zI a_p0 gb2 A1 c1 A2 c2 A3 c3 A4 c4 A5 c5)), .res (xL (yL zF) 64 A1 c1 a_p0.devices), .res (Box gb2 135 (zN a_p0_store gb3 M1)), .res (yO (zZ .u8) (cod eu8) M1 a_p0_store.all), .res (Box gb3 131 (zG a_p0_store_d A6 c6 A7 c7)), .res (zM eu8 5 A6 c6 a_p0_store_d.bytes), .res (zM yC 3 A7 c7 a_p0_store_d.wear)] (fun v F=>∃ A8 c8 A9 c9 A10 c10 A11 c11 A12 c12 M2 A13 c13 A14 c14,v= .int .i64 r.2.2.2∧F= [.ro (SlL zP A9 c9 r.1.needs), .ro (SlL yR A10 c10 r.1.load.Have), .ro (SlL eu8 A11 c11 r.1.load.Data), .ro (SlL yC A12 c12 r.1.order), .res (Box gb1 144 (zI r.1 gb2 A8 c8 A9 c9 A10 c10 A11 c11 A12 c12)), .res (xL (yL zF) 64 A8 c8 r.1.devices), .res (Box gb2 135 (zN r.2.1 gb3 M2)), .res (yO (zZ .u8) (cod eu8) M2 r.2.1.all), .res (Box gb3 131 (zG r.2.2.1 A13 c13 A14 c14)), .res (zM eu8 5 A13 c13 r.2.2.1.bytes), .res (zM yC 3 A14 c14 r.2.2.1.wear)]):=by
 refine Fun.intro Tryz.func148 rfl rfl rfl fun w R=>?_;refine .ab [0] rfl<|.seq<|.a 3 rfl<|.lb 0 4 rfl<|.bd h fun bb1 hbb1 h=>?_;refine .ss 7 (lN hbb1)<|.bd h fun r1 hr1 h=>.call (eU (gb1:=gb2) (gb2:=gb3) hr1) zUX rfl rfl rfl (zl [6,6,6,6,6] 0 rfl) ?_;rintro _ _ ⟨M2,A8,c8,A9,c9,rfl,rfl⟩;refine .nm 11 rfl<|.b [0,3] rfl<|.ab [0,3,10] rfl<|.cb h rfl (fun h=>?_) (fun h=>?_)
 ·refine .ab [2] rfl ?_;cases h;exact .rv rfl rfl ⟨A1,c1,A2,c2,A3,c3,A4,c4,A5,c5,M2,A8,c8,A9,c9,rfl,rfl⟩ (zk 11 4 [7,8,9,10] [9,9] 0 rfl)
 refine .sk<|.pr [0] rfl<|.a 4 rfl<|.sb 3 9 rfl<|.n 2 rfl<|.sb 9 0 rfl<|.bf [] [0,0,0,0,0,0,0,0,0] 1 rfl rfl<|.ae rfl<|.asrt (fun _ w=>w.nilSl (cod yC)) ?_;cases h;exact .rv rfl rfl ⟨A1,c1,A2,c2,A3,c3,A4,c4,none,0,M2,A8,c8,A9,c9,rfl,rfl⟩ (zk 11 4 [8,9,10,7] [1,9,1,1,1,1,1] 0 rfl)
theorem zWh:Ent Tryz.prog 145:=en Tryz.func145 (by kernel_rfl)
noncomputable def rR (a_p0:zC) (i_p1:Int):Option Bool:=
 bnd (wI a_p0 i_p1) fun r1=>some (!r1)
theorem eM {a_p0 i_p1 A1 c1 A2 c2 A3 c3 A4 c4 A5 c5 gb1 gb2 r} (h:rR a_p0 i_p1=some r):
    Fun Tryz.prog 145 [.pointer (some ⟨gb1,0,none⟩), .int .i64 i_p1] [.ro (SlL zP A2 c2 a_p0.needs), .ro (SlL yR A3 c3 a_p0.load.Have), .ro (SlL eu8 A4 c4 a_p0.load.Data), .ro (SlL yC A5 c5 a_p0.order), .res (Box gb1 144 (zI a_p0 gb2 A1 c1 A2 c2 A3 c3 A4 c4 A5 c5)), .res (xL (yL zF) 64 A1 c1 a_p0.devices)] (fun v F=>v= .bool r∧F= [.res (Box gb1 144 (zI a_p0 gb2 A1 c1 A2 c2 A3 c3 A4 c4 A5 c5)), .res (xL (yL zF) 64 A1 c1 a_p0.devices)]):=by
 refine Fun.intro Tryz.func145 rfl rfl rfl fun w R=>?_;refine .ab [0,1] rfl<|.a 2 rfl<|.bd h fun r1 hr1 h=>.cq 6 [2,3,4,5] [4,4] 0 (pA (gb1:=gb1) hr1) zMW rfl<|.b [4] rfl ?_;cases h;exact .rv rfl rfl ⟨rfl,rfl⟩ (zl [0,0] 4 rfl)
noncomputable def xB (s_p0:(List Int)) (f_p1_b:zC):Option Int:=
 bnd (yE (τ:=Int ⊕ Unit) (fun (s1:Int)=>bif decide (s1<(s_p0.length:Int)) then (bnd (elt s_p0 s1) fun x1=>bnd (rR f_p1_b x1) fun r1=>bif r1 then (some (.done (.inl s1))) else (some (.next (IntKind.wrap .i64 (s1+1))))) else (some (.done (.inr ())))) 0) fun o1=>vB o1 fun o2=>some (-1)
theorem rD {s_p0 f_p1_b A1 c1 A2 c2 A3 c3 A4 c4 A5 c5 A6 c6 gb1 gb2 r} (h:xB s_p0 f_p1_b=some r):
    Fun Tryz.prog 225 [.slice A1 s_p0.length c1, .func (.func 145) #[.pointer (some ⟨gb1,0,none⟩)] #[]] [.ro (SlL yC A1 c1 s_p0), .ro (SlL zP A3 c3 f_p1_b.needs), .ro (SlL yR A4 c4 f_p1_b.load.Have), .ro (SlL eu8 A5 c5 f_p1_b.load.Data), .ro (SlL yC A6 c6 f_p1_b.order), .res (Box gb1 144 (zI f_p1_b gb2 A2 c2 A3 c3 A4 c4 A5 c5 A6 c6)), .res (xL (yL zF) 64 A2 c2 f_p1_b.devices)] (fun v F=>v= .int .i64 r∧F= [.res (Box gb1 144 (zI f_p1_b gb2 A2 c2 A3 c3 A4 c4 A5 c5 A6 c6)), .res (xL (yL zF) 64 A2 c2 f_p1_b.devices)]):=by
 refine Fun.intro Tryz.func225 rfl rfl rfl fun w R=>?_;refine .ab [0,1] rfl<|.seq<|.ab [0,1,7,8] rfl<|.bd h fun o1 hl1 h=>.cutJ 1 (fun (o2:Unit) (e2:Unit)=>[]) (fun o2 e2=>[]) rfl rfl (fun o2=>o1= .inr o2) ?_ ?_
 ·refine .block<|.loopQ hl1 0 (fun (s1:Int) (e1:Unit)=>[0,1,7, .s 8 (.int .i64 s1)]) (fun s1 e1=>[]) rfl rfl () (zb rfl) (fun _ w=>w) ?_;rintro s1 e1 st1 hm1 hd1 h1;refine .ae rfl<|.seq<|.cb h1 rfl (fun h1=>?_) (fun h1=>?_)
  ·refine .sk<|.pr [0,1,7,8] rfl<|.seq<|.block<|.ab [0,1,5,7,8] rfl<|.a 3 rfl<|.bd h1 fun x1 hx1 h1=>.ix1 hx1 0 rfl fun b1 ob1=>.ld ob1 0 0 rfl<|.bd h1 fun r1 hr1 h1=>.callB (us:= [.pointer (some ⟨gb1,0,none⟩)]) (args:= [.int .i64 x1]) (eM (gb1:=gb1) hr1) zWh rfl rfl rfl (zd [4,5,6,7] [6,6] 0 rfl) ?_;rintro _ _ ⟨rfl,rfl⟩;refine .nm 8 rfl<|.bf [0,1,5,7,8,16] [0,0] 1 rfl rfl<|.cb h1 rfl (fun h1=>?_) (fun h1=>?_)
   ·refine .abf [4] [0,0] 1 rfl rfl ?_;cases h1;cases hd1 _ rfl
    have h:some _=some _:=h;cases h;exact .rv rfl rfl ⟨rfl,rfl⟩ (zl [0,0] 4 rfl)
   refine .skip<|.blkN<|.thenN<|.pr [0,1,7,8] rfl<|.region ?_;cases h1;exact .be rfl<|.ag () hm1 rfl (zl [2,2,2,2,2] 0 rfl)
  refine .xq rfl ?_;cases h1;cases hd1 _ rfl
  exact .thenN<|.hereI () () rfl trivial (zl [] 1 rfl)
 rintro o2 e2 ho;subst ho;have h:=unR h;refine .ae rfl ?_;cases h;exact .rv rfl rfl ⟨rfl,rfl⟩ (zl [] 4 rfl)
noncomputable def xJ (s_p0:(List Int)) (f_p1_b:zC):Option Bool:=
 bnd (xB s_p0 f_p1_b) fun r1=>some (decide (r1≥0))
theorem nP {s_p0 f_p1_b A1 c1 A2 c2 A3 c3 A4 c4 A5 c5 A6 c6 gb1 gb2 r} (h:xJ s_p0 f_p1_b=some r):
    Fun Tryz.prog 147 [.slice A1 s_p0.length c1, .func (.func 145) #[.pointer (some ⟨gb1,0,none⟩)] #[]] [.ro (SlL yC A1 c1 s_p0), .ro (SlL zP A3 c3 f_p1_b.needs), .ro (SlL yR A4 c4 f_p1_b.load.Have), .ro (SlL eu8 A5 c5 f_p1_b.load.Data), .ro (SlL yC A6 c6 f_p1_b.order), .res (Box gb1 144 (zI f_p1_b gb2 A2 c2 A3 c3 A4 c4 A5 c5 A6 c6)), .res (xL (yL zF) 64 A2 c2 f_p1_b.devices)] (fun v F=>v= .bool r∧F= [.res (Box gb1 144 (zI f_p1_b gb2 A2 c2 A3 c3 A4 c4 A5 c5 A6 c6)), .res (xL (yL zF) 64 A2 c2 f_p1_b.devices)]):=by
 refine Fun.intro Tryz.func147 rfl rfl rfl fun w R=>?_;refine .ab [0,1] rfl<|.a 2 rfl<|.bd h fun r1 hr1 h=>.cq 7 [2,3,4,5,6] [5,5] 0 (rD (gb1:=gb1) hr1) zLQ rfl<|.bf [4] [0,0] 1 rfl rfl ?_;cases h;exact .rv rfl rfl ⟨rfl,rfl⟩ (zl [0,0] 4 rfl)
theorem zRs:Ent Tryz.prog 67:=en Tryz.func67 (by kernel_rfl)
noncomputable def xV (a_p0:zC) (a_p0_store:zD) (a_p0_store_d:zA):Option (zC × zD × zA × Int):=
 bif (a_p0.phase==3) then (bnd (vF a_p0.order a_p0) fun r1=>bif r1 then (some (a_p0,a_p0_store,a_p0_store_d,0)) else (bnd (uO a_p0 a_p0_store a_p0_store_d) fun r2=>some (r2.1,r2.2.1,r2.2.2.1,r2.2.2.2))) else (bnd (xJ a_p0.order a_p0) fun r3=>bif r3 then (some (a_p0,a_p0_store,a_p0_store_d,0)) else (bnd (uO a_p0 a_p0_store a_p0_store_d) fun r4=>some (r4.1,r4.2.1,r4.2.2.1,r4.2.2.2)))
theorem pV {a_p0 a_p0_store a_p0_store_d A1 c1 A2 c2 A3 c3 A4 c4 A5 c5 A6 c6 A7 c7 M1 gb1 gb2 gb3 r} (h:xV a_p0 a_p0_store a_p0_store_d=some r):
    Fun Tryz.prog 67 [.pointer (some ⟨gb1,0,none⟩)] [.ro (SlL zP A2 c2 a_p0.needs), .ro (SlL yR A3 c3 a_p0.load.Have), .ro (SlL eu8 A4 c4 a_p0.load.Data), .ro (SlL yC A5 c5 a_p0.order), .res (Box gb1 144 (zI a_p0 gb2 A1 c1 A2 c2 A3 c3 A4 c4 A5 c5)), .res (xL (yL zF) 64 A1 c1 a_p0.devices), .res (Box gb2 135 (zN a_p0_store gb3 M1)), .res (yO (zZ .u8) (cod eu8) M1 a_p0_store.all), .res (Box gb3 131 (zG a_p0_store_d A6 c6 A7 c7)), .res (zM eu8 5 A6 c6 a_p0_store_d.bytes), .res (zM yC 3 A7 c7 a_p0_store_d.wear)] (fun v F=>∃ A8 c8 A9 c9 A10 c10 A11 c11 A12 c12 M2 A13 c13 A14 c14,v= .int .i64 r.2.2.2∧F= [.ro (SlL zP A9 c9 r.1.needs), .ro (SlL yR A10 c10 r.1.load.Have), .ro (SlL eu8 A11 c11 r.1.load.Data), .ro (SlL yC A12 c12 r.1.order), .res (Box gb1 144 (zI r.1 gb2 A8 c8 A9 c9 A10 c10 A11 c11 A12 c12)), .res (xL (yL zF) 64 A8 c8 r.1.devices), .res (Box gb2 135 (zN r.2.1 gb3 M2)), .res (yO (zZ .u8) (cod eu8) M2 r.2.1.all), .res (Box gb3 131 (zG r.2.2.1 A13 c13 A14 c14)), .res (zM eu8 5 A13 c13 r.2.2.1.bytes), .res (zM yC 3 A14 c14 r.2.2.1.wear)]):=by
 refine Fun.intro Tryz.func67 rfl rfl rfl fun w R=>?_;refine .ab [0] rfl<|.ab [0,3] rfl<|.seq<|.a 3 rfl<|.lb 3 4 rfl<|.b [0,3,10] rfl<|.cb h rfl (fun h=>?_) (fun h=>?_)
 ·refine .region<|.b [0,3] rfl<|.seq<|.a 3 rfl<|.lb 9 4 rfl<|.p rfl rfl<|.bd h fun r1 hr1 h=>.cq 11 [5,2,3,4,5] [4,4] 0 (tY (gb1:=gb1) hr1) zLF rfl<|.b [0,18] rfl<|.cb h rfl (fun h=>?_) (fun h=>?_)
  ·refine .ab [2] rfl ?_;cases h;exact .rv rfl rfl ⟨A1,c1,A2,c2,A3,c3,A4,c4,A5,c5,M1,A6,c6,A7,c7,rfl,rfl⟩ (zk 11 4 [7,8,9,10] [0,0,4,4,4,4,4] 0 rfl)
  refine .sk<|.pr [0] rfl<|.a 1 rfl<|.bd h fun r2 hr2 h=>.call (mI (gb1:=gb1) (gb2:=gb2) (gb3:=gb3) hr2) zLJ rfl rfl rfl (zd [7,8,9,10] [0,0,4,4,4,4,4] 0 rfl) ?_;rintro _ _ ⟨A8,c8,A9,c9,A10,c10,A11,c11,A12,c12,M2,A13,c13,A14,c14,rfl,rfl⟩;refine .nm 15 rfl<|.bf [2] [0,0,0,0,0,0,0,0,0,0,0] 4 rfl rfl ?_;cases h;exact .rv rfl rfl ⟨A8,c8,A9,c9,A10,c10,A11,c11,A12,c12,M2,A13,c13,A14,c14,rfl,rfl⟩ (zk 11 4 [7,8,9,10] [4,4,4,4,4,4,4] 0 rfl)
 refine .sk<|.pr [0,3] rfl<|.seq<|.a 3 rfl<|.lb 9 4 rfl<|.p rfl rfl<|.bd h fun r3 hr3 h=>.cq 11 [5,2,3,4,5] [4,4] 0 (nP (gb1:=gb1) hr3) zLF rfl<|.b [0,18] rfl<|.cb h rfl (fun h=>?_) (fun h=>?_)
 ·refine .ab [2] rfl ?_;cases h;exact .rv rfl rfl ⟨A1,c1,A2,c2,A3,c3,A4,c4,A5,c5,M1,A6,c6,A7,c7,rfl,rfl⟩ (zk 11 4 [7,8,9,10] [0,0,4,4,4,4,4] 0 rfl)
 refine .sk<|.pr [0] rfl<|.a 1 rfl<|.bd h fun r4 hr4 h=>.call (mI (gb1:=gb1) (gb2:=gb2) (gb3:=gb3) hr4) zLJ rfl rfl rfl (zd [7,8,9,10] [0,0,4,4,4,4,4] 0 rfl) ?_;rintro _ _ ⟨A15,c15,A16,c16,A17,c17,A18,c18,A19,c19,M3,A20,c20,A21,c21,rfl,rfl⟩;refine .nm 15 rfl<|.bf [2] [0,0,0,0,0,0,0,0,0,0,0] 4 rfl rfl ?_;cases h;exact .rv rfl rfl ⟨A15,c15,A16,c16,A17,c17,A18,c18,A19,c19,M3,A20,c20,A21,c21,rfl,rfl⟩ (zk 11 4 [7,8,9,10] [4,4,4,4,4,4,4] 0 rfl)
theorem zUf:Ent Tryz.prog 16:=en Tryz.func16 (by kernel_rfl)
noncomputable def tX (store:zD) (devices:(List zB)) (needs:(List zX)) (store_d:zA):Option (zD × zA × (Option zC) × Int):=
 bnd ((bif decide ((devices.length:Int)<1) then (some true) else (some (decide ((devices.length:Int)>8))):Option Bool)) fun o1=>bif o1 then (some (store,store_d,none,2)) else (bnd (yE (τ:=(zD × zA × (Option zC) × Int) ⊕ Unit) (fun (s1:Int)=>bif decide (s1<(devices.length:Int)) then (bnd (elt devices s1) fun x1=>bnd (tU x1) fun r1=>bif !r1 then (some (.done (.inl (store,store_d,none,1)))) else (bnd ((bif decide (s1>0) then (bnd (elt devices (IntKind.wrap .i64 (s1 - 1))) fun x2=>some (Op.bytesLess x1.Name.toList x2.Name.toList||(x1.Name.toList==x2.Name.toList))) else (some false):Option Bool)) fun o4=>bif o4 then (some (.done (.inl (store,store_d,none,7)))) else (some (.next (IntKind.wrap .i64 (s1+1)))))) else (some (.done (.inr ())))) 0) fun o2=>vB o2 fun o3=>bnd (xN ([]) needs) fun r2=>bif (r2.2 != 0) then (some (store,store_d,none,2)) else (bnd (yZ needs) fun r3=>bnd (yE (τ:=List zB) (fun (s2:Int × List zB)=>bif decide (s2.1<(devices.length:Int)) then (bnd (elt devices s2.1) fun x3=>bnd (nZ x3) fun r4=>bnd (yE (τ:=zB) (fun (s3:zB)=>bnd ((bif s3.Trial then (some true) else (some (s3.Running != s3.Active)):Option Bool)) fun o7=>bif o7 then (bnd (lQ s3) fun r5=>some (.next r5)) else (some (.done s3))) r4) fun o6=>bnd (app 184 s2.2 [o6]) fun l1=>some (.next (IntKind.wrap .i64 (s2.1+1),l1))) else (some (.done s2.2))) (0, [])) fun o5=>bnd (uY store 32) fun r6=>bif !r6.2 then (some (store,store_d,(some (⟨true,o5,r3,0,(⟨0,0, [], []⟩:yW),0, []⟩:zC)),0)) else (bnd (nK (⟨true,o5,r3,0,(⟨0,0, [], []⟩:yW),0, []⟩:zC) r6.1) fun r7=>bif !r7.2 then (some (store,store_d,none,6)) else (bnd (xV r7.1 store store_d) fun r8=>bif (r8.2.2.2 != 0) then (some (r8.2.1,r8.2.2.1,none,r8.2.2.2)) else (some (r8.2.1,r8.2.2.1,(some r8.1),0))))))
theorem zAF {store devices needs store_d A1 c1 A2 c2 A3 c3 A4 c4 M1 gb1 gb2 r} (h:tX store devices needs store_d=some r):
    Fun Tryz.prog 16 [.pointer (some ⟨gb1,0,none⟩), .slice A1 devices.length c1, .slice A2 needs.length c2] [.ro (Sl (yL zF) A1 c1 devices), .ro (SlL zP A2 c2 needs), .ro (zBI 0 [(2,some 315),(3,some 316)]), .res (Box gb1 135 (zN store gb2 M1)), .res (yO (zZ .u8) (cod eu8) M1 store.all), .res (Box gb2 131 (zG store_d A3 c3 A4 c4)), .res (zM eu8 5 A3 c3 store_d.bytes), .res (zM yC 3 A4 c4 store_d.wear)] (zMU r.2.2.1 (fun v F=>∃ M2 A5 c5 A6 c6,v= .tuple #[.pointer none, .int .i64 r.2.2.2]∧F= [.res (Box gb1 135 (zN r.1 gb2 M2)), .res (yO (zZ .u8) (cod eu8) M2 r.1.all), .res (Box gb2 131 (zG r.2.1 A5 c5 A6 c6)), .res (zM eu8 5 A5 c5 r.2.1.bytes), .res (zM yC 3 A6 c6 r.2.1.wear)]) (fun q_ v F=>∃ g1 M2 A5 c5 A6 c6 A7 c7 A8 c8 A9 c9 A10 c10 A11 c11,v= .tuple #[.pointer (some ⟨g1,0,none⟩), .int .i64 r.2.2.2]∧F= [.ro (SlL zP A8 c8 q_.needs), .ro (SlL yR A9 c9 q_.load.Have), .ro (SlL eu8 A10 c10 q_.load.Data), .ro (SlL yC A11 c11 q_.order), .res (Box gb1 135 (zN r.1 gb2 M2)), .res (yO (zZ .u8) (cod eu8) M2 r.1.all), .res (Box gb2 131 (zG r.2.1 A5 c5 A6 c6)), .res (zM eu8 5 A5 c5 r.2.1.bytes), .res (zM yC 3 A6 c6 r.2.1.wear), .res (Box g1 144 (zI q_ gb1 A7 c7 A8 c8 A9 c9 A10 c10 A11 c11)), .res (xL (yL zF) 64 A7 c7 q_.devices)])):=by
 refine Fun.intro Tryz.func16 rfl rfl rfl fun w R=>?_;refine .ab [0,1,2] rfl<|.seq<|.seq<|.bd h fun o1 hj1 h=>.cutK 0 (fun (e1:Unit)=>[0,1,2, .s 25 (.bool o1)]) (fun e1=>[]) rfl rfl ?_ ?_
 ·refine .region<|.n 4 rfl<|.gs 21 hj1 rfl (fun hj1=>?_) (fun hj1=>?_)
  ·cases hj1;exact .be rfl<|.hU rfl zw
  cases hj1;exact .be rfl<|.hU rfl zw
 rintro e1;refine .cb h rfl (fun h=>?_) (fun h=>?_)
 ·refine .abf [6,7] [] 2 rfl rfl ?_;cases h;exact .rv rfl rfl (nU ⟨M1,A3,c3,A4,c4,rfl,rfl⟩) (zl [] 1 rfl)
 refine .sk<|.pr [0,1,2] rfl<|.seq<|.ae rfl<|.bd h fun o2 hl1 h=>.cutJ 0 (fun (o3:Unit) (e3:Unit)=>[0,1,2]) (fun o3 e3=>[]) rfl rfl (fun o3=>o2= .inr o3) ?_ ?_
 ·refine .block<|.loopQ hl1 0 (fun (s1:Int) (e2:Unit)=>[0,1,2,26,27, .s 28 (.int .i64 s1)]) (fun s1 e2=>[]) rfl rfl () (zb rfl) (fun _ w=>w) ?_;rintro s1 e2 st1 hm1 hd1 h1;refine .ae rfl<|.seq<|.cb h1 rfl (fun h1=>?_) (fun h1=>?_)
  ·refine .sk<|.pr [0,1,2,26,27,28] rfl<|.seq<|.block<|.a 1 rfl<|.bd h1 fun x1 hx1 h1=>.ix3 hx1 0 rfl fun b1 ob1 ex1=>?_;obtain ⟨⟨A5,c5⟩,⟨⟨A6,c6⟩,_⟩⟩:=ex1;refine .nm 11 rfl<|.ld ob1 0 0 rfl<|.alloc rfl rfl fun g1=>.p rfl rfl<|.sb 0 0 rfl<|.bf [0,1,2,8,9,26,27,28] [0] 1 rfl rfl<|.seq<|.seq<|.region<|.lb 0 0 rfl<|.bd h1 fun r1 hr1 h1=>.cv [1,2] (oW hr1) zHo rfl<|.b [0,1,2,8,9,26,27,28,35] rfl<|.cb h1 rfl (fun h1=>?_) (fun h1=>?_)
   ·refine .abf [6,7] [] 5 rfl rfl ?_;cases h1;cases hd1 _ rfl
    have h:some _=some _:=h;cases h;exact .rv rfl rfl (nU ⟨M1,A3,c3,A4,c4,rfl,rfl⟩) (zl [] 1 rfl)
   refine .sk<|.pr [0,1,2,8,9,26,27,28] rfl<|.seq<|.bd h1 fun o4 hj2 h1=>.cu 3 [0,1,2,26,27,28, .s 48 (.bool o4)] [] rfl rfl ?_ ?_
   ·refine .regionF mixed (by kernel_rfl)<|.n 3 rfl<|.gs 38 hj2 rfl (fun hj2=>?_) (fun hj2=>?_)
    ·refine .n 1 rfl<|.gOn rfl rfl<|.lb 0 0 rfl<|.n 3 rfl<|.gOn rfl rfl<|.bd hj2 fun x2 hx2 hj2=>.ix3 hx2 3 rfl fun b2 ob2 ex2=>?_;obtain ⟨⟨A7,c7⟩,⟨⟨A8,c8⟩,_⟩⟩:=ex2;refine .nm 14 rfl<|.n 1 rfl<|.gOn rfl rfl<|.ld ob2 0 0 rfl ?_;cases hj2;exact .beq rfl<|.hU rfl (zl [] 6 rfl)
    cases hj2;exact .beq rfl<|.hU rfl (zl [] 3 rfl)
   refine .cb h1 rfl (fun h1=>?_) (fun h1=>?_)
   ·refine .abf [6,7] [] 2 rfl rfl ?_;cases h1;cases hd1 _ rfl
    have h:some _=some _:=h;cases h;exact .rv rfl rfl (nU ⟨M1,A3,c3,A4,c4,rfl,rfl⟩) (zl [] 1 rfl)
   refine .skip<|.blkN<|.thenN<|.pr [0,1,2,26,27,28] rfl<|.region ?_;cases h1;exact .be rfl<|.ag () hm1 rfl zw
  refine .xq rfl ?_;cases h1;cases hd1 _ rfl
  exact .thenN<|.hereI () () rfl (zb rfl) zw
 rintro o3 e3 ho;subst ho;have h:=unR h;refine .seq<|.a 1 rfl<|.asrt (fun _ w=>w.nilSl (cod zK))<|.bd h fun r2 hr2 h=>.cv [0,2] (uG hr2) zDL rfl<|.bf [0,1,2,11] [] 1 rfl rfl<|.ab [0,1,2,56] rfl<|.cb h rfl (fun h=>?_) (fun h=>?_)
 ·refine .abf [6,7] [] 2 rfl rfl ?_;cases h;exact .rv rfl rfl (nU ⟨M1,A3,c3,A4,c4,rfl,rfl⟩) (zl [] 1 rfl)
 refine .sk<|.pr [0,1,2] rfl<|.a 2 rfl<|.bd h fun r3 hr3 h=>.cr 9 [1] [] 0 (vW hr3) zQl rfl fun A9 c9=>.p rfl rfl<|.box rfl rfl fun g2=>.bf [0,1,12] [0,0,0] 1 rfl rfl<|.seq<|.ab [0,12,62,63,64] rfl<|.asrt (fun _ w=>w.nilC (yL zF) 64)<|.bd h fun o5 hl2 h=>.cutK 4 (fun (e6:Option Addr × Nat)=>[0,12]) (fun e6=>[.res (xL (yL zF) 64 e6.1 e6.2 o5), .res (Box g2 144 [.pointer (some ⟨gb1,0,none⟩), .slice e6.1 o5.length e6.2, .slice A9 r3.length c9, .int .i64 0, .int .i64 0, .int .i64 0, .slice none 0 0, .slice none 0 0, .int .u8 0, .slice none 0 0]),2]) rfl rfl ?_ ?_
 ·refine .block<|.loopQ hl2 2 (fun (s2:Int × List zB) (e5:Option Addr × Nat)=>[0,12,62,63, .s 64 (.int .i64 s2.1)]) (fun s2 e5=>[.res (xL (yL zF) 64 e5.1 e5.2 s2.2), .res (Box g2 144 [.pointer (some ⟨gb1,0,none⟩), .slice e5.1 s2.2.length e5.2, .slice A9 r3.length c9, .int .i64 0, .int .i64 0, .int .i64 0, .slice none 0 0, .slice none 0 0, .int .u8 0, .slice none 0 0])]) rfl rfl (none,0) (zb rfl) (fun _ w=>w) ?_;rintro s2 ⟨A10,c10⟩ st2 hm2 hd2 h2;refine .ae rfl<|.seq<|.cb h2 rfl (fun h2=>?_) (fun h2=>?_)
  ·refine .sk<|.pr [0,12,62,63,64] rfl<|.seq<|.block<|.seq<|.region<|.bd h2 fun x3 hx3 h2=>.ix3 hx3 3 rfl fun b3 ob3 ex3=>?_;obtain ⟨⟨A12,c12⟩,⟨⟨A13,c13⟩,_⟩⟩:=ex3;refine .nm 13 rfl<|.ld ob3 0 0 rfl<|.alloc rfl rfl fun g3=>.sb 0 0 rfl<|.bf [0,12,14,62,63,64] [0] 1 rfl rfl<|.seq<|.region<|.lb 0 0 rfl<|.bd h2 fun r4 hr4 h2=>.ct 15 [1,2] [] 0 (zDU hr4) zWZ rfl fun A14 c14 A15 c15=>.sb 0 2 rfl<|.bf [0,12,14,62,63,64] [0,0,0] 2 rfl rfl<|.seq<|.bd h2 fun o6 hl3 h2=>.cutK 3 (fun (e8:Option Addr × Nat × Option Addr × Nat)=>[0,12,14,62,63,64]) (fun e8=>[.ro (SlL eu8 e8.2.2.1 e8.2.2.2 o6.Slots.e1.Image.Data), .ro (SlL eu8 e8.1 e8.2.1 o6.Slots.e0.Image.Data), .res (Box g3 64 (zO o6 e8.1 e8.2.1 e8.2.2.1 e8.2.2.2))]) rfl rfl ?_ ?_
   ·refine .block<|.loopQ hl3 3 (fun (s3:zB) (e7:Option Addr × Nat × Option Addr × Nat)=>[0,12,14,62,63,64]) (fun s3 e7=>[.ro (SlL eu8 e7.2.2.1 e7.2.2.2 s3.Slots.e1.Image.Data), .ro (SlL eu8 e7.1 e7.2.1 s3.Slots.e0.Image.Data), .res (Box g3 64 (zO s3 e7.1 e7.2.1 e7.2.2.1 e7.2.2.2))]) rfl rfl (A14,c14,A15,c15) (zb rfl) (zl [2,1] 0 rfl) ?_;rintro s3 ⟨A16,c16,A17,c17⟩ st3 hm3 hd3 h3;refine .seq<|.seq<|.bd h3 fun o7 hj3 h3=>.cu 0 [0,12,14,62,63,64, .s 78 (.bool o7)] [] rfl rfl ?_ ?_
    ·refine .region<|.p rfl rfl<|.lb 15 2 rfl<|.p rfl rfl<|.gs 72 hj3 rfl (fun hj3=>?_) (fun hj3=>?_)
     ·cases hj3;exact .be rfl<|.hU rfl zw
     refine .n 1 rfl<|.gOn rfl rfl<|.lb 14 2 rfl<|.n 1 rfl<|.gOn rfl rfl<|.lb 13 2 rfl ?_;cases hj3;exact .be rfl<|.hU rfl zw
    refine .cb h3 rfl (fun h3=>?_) (fun h3=>?_)
    ·refine .sk<|.pr [0,12,14,62,63,64] rfl<|.block<|.region<|.lb 0 2 rfl<|.bd h3 fun r5 hr5 h3=>.ct 15 [1,0] [] 0 (zEr hr5) zKb rfl fun A20 c20 A21 c21=>.sb 0 4 rfl<|.done<|.blkN<|.asrt (fun _ w=>(w.sl [1] 0 rfl).meltL)<|.asrt (fun _ w=>(w.sl [2] 0 rfl).meltL) ?_;cases h3;exact .thenN<|.ag (A20,c20,A21,c21) hm3 rfl (zl [0,0,0] 2 rfl)
    refine .xq rfl ?_;cases h3;cases hd3 _ rfl
    exact .thenN<|.hE (A16,c16,A17,c17) rfl zw
   rintro ⟨A18,c18,A19,c19⟩;refine .bd h2 fun l1 hl1 h2=>.regionX (iN [0,4,8,12,20] (.alt (iN [19] (iN [27] (iN [31,32,36] (iN [43] .nil)))) (iN [27] (iN [19] (iN [31,32,36] (iN [43] .nil)))))) _ mixed (by kernel_rfl) (zl [0,0,0] 2 rfl)<|.shareK (Y:=?Ynd1_0) 0 (fun (e:Nat)=>[0,12,62,63,64, .s 81 (.pointer (some ⟨g2,0,none⟩)), .s 85 (.slice A10 s2.2.length c10), .s 87 (.slice (some ⟨e,0,none⟩) 1 1)]) (fun e=>[.res (Box e 64 (zO o6 A18 c18 A19 c19))]) rfl rfl (fun hnd1_0=>?mnd1_0) ?tnd1_0
   case mnd1_0=>
    refine .yn 4 rfl<|.yl 0 2 rfl<|.xalt ?_ ?_
    ·refine .xef<|.lb 1 4 rfl<|.xk (zl [0,0,0] 2 rfl)<|.xef<|.bS rfl fun g4=>.xk (zl [1,1,1] 3 rfl) ?_;refine hnd1_0 _ _ g4 ?_ ?_
     ·exact ⟨rfl,rfl,rfl,rfl,rfl,rfl,rfl,rfl,trivial⟩
     exact fun _ w=>w
    refine .xef<|.bS rfl fun g4=>.xk (zl [1,1,1] 3 rfl)<|.xef<|.lb 1 5 rfl<|.xk (zl [1,1,1] 3 rfl) ?_;refine hnd1_0 _ _ g4 ?_ ?_
    ·exact ⟨rfl,rfl,rfl,rfl,rfl,rfl,rfl,rfl,trivial⟩
    exact fun _ w=>w
   case tnd1_0=>
    rintro g4;refine .nm 14 rfl<|.xef<|.appC (E:=(yL zF)) hl1 rfl rfl rfl (.s (.s (.s (.s .z)))) rfl rfl rfl rfl rfl rfl rfl rfl (zFK (ls:=zF) [(o6,((A18,c18),((A19,c19),())))] (.head _) rfl rfl rfl ⟨(zm 2 rfl),(.tail _ (.head _)),trivial⟩) rfl rfl fun A22 c22=>.xk (zl [2,2,2] 3 rfl)<|.yn 2 rfl<|.xef<|.sb 1 5 rfl<|.xk (zl [] 3 rfl)<|.xdone<|.blkN<|.thenN<|.pf [0,12,62,63,64] [0,0] 4 rfl rfl<|.region ?_;cases h2;exact .be rfl<|.ag (A22,c22) hm2 rfl (zl [1] 0 rfl)
  refine .xq rfl ?_;cases h2;cases hd2 _ rfl
  exact .thenN<|.hE (A10,c10) rfl (zl [0,0,0] 1 rfl)
 rintro ⟨A11,c11⟩;refine .a 1 rfl<|.bd h fun r6 hr6 h=>.cr 10 [] [4,4] 0 (aY (gb1:=gb1) hr6) zWG rfl fun A23 c23=>.b [12,15,16] rfl<|.seq<|.ab [12,15,98] rfl<|.cb h rfl (fun h=>?_) (fun h=>?_)
 ·refine .abf [6,7] [0,0] 1 rfl rfl<|.asrt (fun _ w=>(w.sl [4] 0 rfl).meltL)<|.asrt (fun _ w=>w.nilSl (cod yR))<|.asrt (fun _ w=>w.nilSl (cod eu8))<|.asrt (fun _ w=>w.nilSl (cod yC)) ?_;cases h;exact .rv rfl rfl (zCe ⟨g2,M1,A3,c3,A4,c4,A11,c11,A9,c9,none,0,none,0,none,0,rfl,rfl⟩) (zk 11 5 [10,9,8,7] [4,4,7,7,7,5,4] 0 rfl)
 refine .sk<|.pr [12,15] rfl<|.seq<|.a 2 rfl<|.asrt (fun _ w=>(w.sl [5] 0 rfl).meltL)<|.asrt (fun _ w=>w.nilSl (cod yR))<|.asrt (fun _ w=>w.nilSl (cod eu8))<|.asrt (fun _ w=>w.nilL yC 3)<|.asrt (fun _ w=>(w.sl [6] 0 rfl).meltL)<|.bd h fun r7 hr7 h=>.call (zAy (gb1:=g2) hr7) zWV rfl rfl rfl (zd [6,5,4,3,9] [8,7,1] 0 rfl) ?_;rintro _ _ ⟨A24,c24,A25,c25,A26,c26,A27,c27,A28,c28,rfl,rfl⟩;refine .nm 16 rfl<|.bf [12,103] [0,0,0,0,0,0] 4 rfl rfl<|.cb h rfl (fun h=>?_) (fun h=>?_)
 ·refine .abf [6,7] [] 6 rfl rfl ?_;cases h;exact .rv rfl rfl (nU ⟨M1,A3,c3,A4,c4,rfl,rfl⟩) (zl [0,0] 1 rfl)
 refine .sk<|.pr [12] rfl<|.seq<|.a 1 rfl<|.asrt (fun _ w=>(w.sl [5] 0 rfl).meltL)<|.bd h fun r8 hr8 h=>.call (pV (gb1:=g2) (gb2:=gb1) (gb3:=gb2) hr8) zRs rfl rfl rfl (zd [8,9,10,7] [4,4,4,4,5,5,5] 0 rfl) ?_;rintro _ _ ⟨A29,c29,A30,c30,A31,c31,A32,c32,A33,c33,M2,A34,c34,A35,c35,rfl,rfl⟩;refine .nm 16 rfl<|.bf [12,17] [0,0,0,0,0,0,0,0,0,0,0] 4 rfl rfl<|.ab [12,17,107] rfl<|.cb h rfl (fun h=>?_) (fun h=>?_)
 ·refine .abf [6,7] [] 6 rfl rfl ?_;cases h;exact .rv rfl rfl (nU ⟨M2,A34,c34,A35,c35,rfl,rfl⟩) (zl [0,0,0,0,0] 1 rfl)
 refine .sk<|.pr [12] rfl<|.ab [6,7] rfl ?_;cases h;exact .rv rfl rfl (zCe ⟨g2,M2,A34,c34,A35,c35,A29,c29,A30,c30,A31,c31,A32,c32,A33,c33,rfl,rfl⟩) (zk 11 5 [7,8,9,10] [6,6,6,6,6,4,4] 0 rfl)
theorem zUl:Ent Tryz.prog 76:=en Tryz.func76 (by kernel_rfl)
noncomputable def oJ (b_p0:zV):Option Int:=
 bnd ((bif decide ((b_p0.Images.length:Int)<1) then (some true) else (some (decide ((b_p0.Images.length:Int)>8))):Option Bool)) fun o1=>bif o1 then (some 2) else (bnd (yE (τ:=Int ⊕ Unit) (fun (s1:Int)=>bif decide (s1<(b_p0.Images.length:Int)) then (bnd (elt b_p0.Images s1) fun x1=>bnd (uX x1) fun r1=>bif !r1 then (some (.done (.inl 1))) else (bnd ((bif decide (s1>0) then (bnd (elt b_p0.Images (IntKind.wrap .i64 (s1 - 1))) fun x2=>some (Op.bytesLess x1.Name.toList x2.Name.toList||(x1.Name.toList==x2.Name.toList))) else (some false):Option Bool)) fun o4=>bif o4 then (some (.done (.inl 7))) else (some (.next (IntKind.wrap .i64 (s1+1)))))) else (some (.done (.inr ())))) 0) fun o2=>vB o2 fun o3=>bif decide ((b_p0.Needs.length:Int)>16) then (some 3) else (bnd (xN ([]) b_p0.Needs) fun r2=>bif (r2.2 != 0) then (some 1) else (some 0)))
end Go.Proofs.YtplchdlgdjcojaaGreatDoor
end
