/-
  Texts of this seat, put together: rules, walks, plain laws.
  Conditions: none.
-/
import Derived.Test.YtplchdlgdjcojaaGreatDoorPW2
section
namespace Go.Proofs.YtplchdlgdjcojaaGreatDoor
open Go
set_option linter.unusedSimpArgs false
set_option linter.unusedVariables false
theorem xS {σ τ ρ:Type} {m:σ→Option (rG σ τ)} {s0:σ} {k:τ→Option ρ} {r:Option ρ} (S:Nat→σ) (n:Nat) (t:τ) (h0:s0=S 0) (hs:∀ i,i<n→m (S i)=some (.next (S (i+1)))) (hd:m (S n)=some (.done t)) (hk:k t=r):
  bnd (yG m s0) k=r:=by
 subst h0
 rw [qM S n hs hd]
 exact hk
theorem rY {σ τ ρ:Type} {m:σ→Option (rG σ τ)} {s0:σ} {k:τ→Option ρ} {r:Option ρ} (S:Nat→σ) (n:Nat) (f:Nat→Option τ) (t:τ) (h0:s0=S 0) (hs:∀ i,i<n→m (S i)=some (match f i with | some u=>.done u | none=>.next (S (i+1)))) (hd:m (S n)=some (.done t))
  (hk:k (((List.range n).findSome? f).getD t)=r):bnd (yG m s0) k=r:=by
 subst h0
 rw [zCW S n f hs hd]
 exact hk
theorem nA {σ τ ρ:Type} {m:σ→Option (rG σ τ)} {s0:σ} {k:τ→Option ρ} {r:Option ρ} (S:Nat→σ) (n:Nat) (p:Nat→Bool) (u t:τ) (h0:s0=S 0) (hs:∀ i,i<n→m (S i)=some (bif p i then .done u else .next (S (i+1)))) (hd:m (S n)=some (.done t))
  (hk:k (bif (List.range n).any p then u else t)=r):bnd (yG m s0) k=r:=by
 subst h0
 rw [zGg S n p hs hd]
 exact hk
theorem bD {σ τ ρ:Type} {m:σ→Option (rG σ τ)} {s0:σ} {k:τ→Option ρ} {R:ρ→Prop} (I:σ→Prop) (μ:σ→Nat) (Q:τ→Prop) (h0:I s0) (h:∀ s,I s→(∃ s',m s=some (.next s')∧I s'∧μ s'<μ s)∨∃ t,m s=some (.done t)∧Q t)
  (hk:∀ t,Q t→∃ r,k t=some r∧R r):∃ r,bnd (yG m s0) k=some r∧R r:=by
 obtain ⟨t,h1,h2⟩:=zLB I μ Q h s0 h0
 rw [h1]
 exact hk t h2
theorem yD {α β:Type} {x:Option α} {f:α→Option β} {a:α} {r:Option β} (h:x=some a) (k:f a=r):bnd x f=r:=by rw [h]; exact k
theorem zWg {α β:Type} {x:Option α} {f:α→Option β} {P:α→Prop} {R:β→Prop} (h:∃ a,x=some a∧P a) (k:∀ a,P a→∃ r,f a=some r∧R r):∃ r,bnd x f=some r∧R r:=by
 obtain ⟨a,h1,h2⟩:=h
 rw [h1]
 exact k a h2
def iz (l:List Nat):List Int:=l.map fun (n:Nat)=>(n:Int)
def xU (l:List Nat):Prop:=∀ x∈l,x<256
def bs (s:ByteArray):List Nat:=s.data.toList.map (·.toNat)
def sb (l:List Nat):ByteArray:=⟨(l.map UInt8.ofNat).toArray⟩
@[simp] theorem iz_len (l:List Nat):(iz l).length=l.length:=by simp [iz]
@[simp] theorem iz_nil:iz []= []:=rfl
@[simp] theorem iz_cons (x:Nat) (l:List Nat):iz (x::l)=(x:Int)::iz l:=rfl
theorem lT (l m:List Nat):iz l++iz m=iz (l++m):=by simp [iz]
theorem zVI {l m:List Nat} (h:iz l=iz m):l=m:=by
 have:(iz l).map Int.toNat=(iz m).map Int.toNat:=by rw [h]
 simpa [iz,Function.comp_def] using this
theorem zVi (l:List Nat) (i:Nat):(iz l)[i]? =(l[i]?).map fun (n:Nat)=>(n:Int):=by simp [iz]
theorem zQr {b:List Int} (h:okL (inK .u8) b):∃ l,xU l∧b=iz l:=by
 have h':∀ x∈b,0≤x∧x≤255:=h.1
 refine ⟨b.map Int.toNat,fun x hx=>?_,?_⟩
 ·obtain ⟨y,hy,rfl⟩:=List.mem_map.1 hx
  have:=h' y hy
  omega
 ·unfold iz
  rw [List.map_map]
  conv=>lhs; rw [←List.map_id b]
  apply List.map_congr_left
  intro y hy
  have:=h' y hy
  simp only [id,Function.comp]
  omega
@[simp] theorem bs_len (s:ByteArray):(bs s).length=s.size:=by simp [bs]
theorem zXp (s:ByteArray):xU (bs s):=fun x hx=>by
 obtain ⟨b,_,rfl⟩:=List.mem_map.1 hx
 exact b.toNat_lt
theorem zXF {l:List Nat} (h:xU l):bs (sb l)=l:=by
 unfold bs sb
 simp only [List.map_map]
 conv=>rhs; rw [←List.map_id l]
 apply List.map_congr_left
 intro x hx
 have:=h x hx
 simp [Function.comp]
 omega
theorem zJP (s:ByteArray):sb (bs s)=s:=by
 obtain ⟨a⟩:=s
 unfold bs sb
 congr 1
 apply Array.ext'
 simp [List.map_map,Function.comp_def]
theorem zQi {s t:ByteArray} (h:bs s=bs t):s=t:=by rw [←zJP s,←zJP t,h]
@[simp] theorem sb_size (l:List Nat):(sb l).size=l.length:=by
 show (l.map UInt8.ofNat).toArray.size=_
 simp
theorem zKs (l:List Nat):zCv (iz l)=sb l:=by
 unfold zCv sb iz
 simp [List.map_map,Function.comp_def]
theorem zPS (s:ByteArray):s.toList.map (·.toNat)=bs s:=by rw [ByteArray.toList_eq]; rfl
theorem zNo (s:ByteArray):nK s=iz (bs s):=by
 unfold nK iz
 rw [←zPS,List.map_map]
 rfl
theorem xU.app {l m:List Nat} (h:xU l) (k:xU m):xU (l++m):=fun x hx=>by
 rcases List.mem_append.1 hx with hx | hx
 ·exact h x hx
 ·exact k x hx
theorem xU.nil:xU []:=fun x hx=>by cases hx
theorem xU.cons {x:Nat} {l:List Nat} (h:x<256) (k:xU l):xU (x::l):=fun y hy=>by
 rcases List.mem_cons.1 hy with rfl | hy
 ·exact h
 ·exact k y hy
theorem xU.sub {l m:List Nat} (h:xU l) (k:∀ x∈m,x∈l):xU m:=fun x hx=>h x (k x hx)
theorem xU.take {l:List Nat} (h:xU l) (n:Nat):xU (l.take n):=h.sub fun _ hx=>List.mem_of_mem_take hx
theorem xU.drop {l:List Nat} (h:xU l) (n:Nat):xU (l.drop n):=h.sub fun _ hx=>List.mem_of_mem_drop hx
theorem xU.get {l:List Nat} (h:xU l) {i:Nat} (hi:i<l.length):l[i]<256:=h _ (List.getElem_mem hi)
theorem dC {l:List Nat} {i:Nat} (h:i<l.length):elt (iz l) (i:Int)=some ((l[i]:Nat):Int):=by
 rw [elt_nat,zVi,List.getElem?_eq_getElem h]
 rfl
theorem zTT {s:ByteArray} {i:Nat} (h:i<s.size):eltS s (i:Int)=some (((bs s)[i]'(by simpa using h):Nat):Int):=by
 simp only [eltS,bs,List.getElem_map]
 rw [if_pos (by omega)]
 simp [h]
 rfl
theorem zTF {l:List Nat} {i:Nat} (h:i<l.length) (v:Nat):tH (iz l) (i:Int) (v:Int)=some (iz (l.set i v)):=by
 unfold tH
 rw [if_pos ⟨by omega,by simpa using h⟩]
 simp [iz,List.map_set]
theorem zIM {l:List Nat} {a b:Nat} (h:a≤b) (hb:b≤l.length):sub (iz l) (a:Int) (b:Int)=some (iz ((l.take b).drop a)):=by
 unfold sub
 rw [if_pos ⟨by omega,by omega,by simpa using hb⟩]
 simp [iz,List.map_take,List.map_drop]
theorem zVo {l m:List Nat} {b:Nat} (h:(l.length+m.length)*b≤140737488355328) (h2:l.length+m.length≤9223372036854775807):app b (iz l) (iz m)=some (iz (l++m)):=by
 rw [uQ (by simpa using h) (by simpa using h2),lT]
theorem zQq {b n:Nat} (h:n*b≤281474976710656) (h2:n≤9223372036854775807):mkS b (0:Int) (n:Int) (n:Int)=some (iz (List.replicate n 0)):=by
 unfold mkS
 rw [if_pos ⟨by omega,by omega,by omega,by omega⟩]
 simp [iz]
theorem zCx (a b:ByteArray):(a.toList==b.toList)=decide (bs a=bs b):=by
 rw [eE]
 by_cases h:a=b
 ·subst h; simp
 ·have:bs a≠bs b:=fun e=>h (zQi e)
  simp [h,this]
theorem xB {α:Type} {c:Bool} (h:c=true) (x y:α):(bif c then x else y)=x:=by rw [h]; rfl
theorem yP {α:Type} {c:Bool} (h:c=false) (x y:α):(bif c then x else y)=y:=by rw [h]; rfl
end Go.Proofs.YtplchdlgdjcojaaGreatDoor
end
section
namespace Go.Proofs.YtplchdlgdjcojaaGreatDoor
open Go
set_option linter.unusedSimpArgs false
set_option linter.unusedVariables false
theorem sE {w a:Nat} (h:a<2 ^ w):(BitVec.ofInt w (a:Int)).toNat=a:=by
 rw [BitVec.toNat_ofInt]
 have:((a:Int) % ((2 ^ w:Nat):Int))=((a % 2 ^ w:Nat):Int):=by omega
 rw [this,Nat.mod_eq_of_lt h]
 rfl
theorem aV {n:Nat} (h:n<256):IntKind.wrap .u8 (n:Int)=(n:Int):=zAC (by omega) (by omega)
theorem yX {n:Nat} (h:n<9223372036854775808):IntKind.wrap .i64 (n:Int)=(n:Int):=yN (by omega) (by omega)
theorem zIx {n:Nat} (h:n<18446744073709551616):IntKind.wrap .u64 (n:Int)=(n:Int):=zCa (by omega) (by omega)
theorem zHE {n:Nat} (h:n<4294967296):IntKind.wrap .u32 (n:Int)=(n:Int):=zLR (by omega) (by omega)
theorem wU (n:Nat):IntKind.wrap .u8 (n:Int)=((n % 256:Nat):Int):=by rw [eH]; omega
theorem zDC {a b:Nat} (ha:a<256) (hb:b<256):iOr .u8 (a:Int) (b:Int)=((a|||b:Nat):Int):=by
 unfold iOr
 rw [BitVec.toNat_or,sE (by exact ha),sE (by exact hb),aV (Nat.or_lt_two_pow (n:=8) ha hb)]
theorem zCR {a b:Nat} (ha:a<4611686018427387904) (hb:b<4611686018427387904):iOr .i64 (a:Int) (b:Int)=((a|||b:Nat):Int):=by
 unfold iOr
 have:=Nat.or_lt_two_pow (x:=a) (y:=b) (n:=62) ha hb
 rw [BitVec.toNat_or,sE (by show a<2 ^ 64; omega),sE (by show b<2 ^ 64; omega),yX (by omega)]
theorem zJr {a b:Nat} (ha:a<256) (hb:b<256):rK .u8 (a:Int) (b:Int)=((a&&&b:Nat):Int):=by
 unfold rK
 rw [BitVec.toNat_and,sE (by exact ha),sE (by exact hb),aV (Nat.and_lt_two_pow (n:=8) a hb)]
theorem zSE {a b:Nat} (ha:a<4611686018427387904) (hb:b<4611686018427387904):rK .i64 (a:Int) (b:Int)=((a&&&b:Nat):Int):=by
 unfold rK
 have:=Nat.and_lt_two_pow (n:=62) a (y:=b) hb
 rw [BitVec.toNat_and,sE (by show a<2 ^ 64; omega),sE (by show b<2 ^ 64; omega),yX (by omega)]
theorem aS {a s:Nat} (hs:s≤64) (h:a*2 ^ s<9223372036854775808):kY .i64 (a:Int) (s:Int)=((a*2 ^ s:Nat):Int):=by
 unfold kY
 have:min (s:Int).toNat (IntKind.bits .i64)=s:=by show min (s:Int).toNat 64=s; omega
 rw [this]
 have e:((a:Int)*2 ^ s)=((a*2 ^ s:Nat):Int):=by simp
 rw [e,yX h]
theorem zTx {a s:Nat} (hs:s≤8) (h:a*2 ^ s<256):kY .u8 (a:Int) (s:Int)=((a*2 ^ s:Nat):Int):=by
 unfold kY
 have:min (s:Int).toNat (IntKind.bits .u8)=s:=by show min (s:Int).toNat 8=s; omega
 rw [this]
 have e:((a:Int)*2 ^ s)=((a*2 ^ s:Nat):Int):=by simp
 rw [e,aV h]
theorem eL {k:IntKind} {a s:Nat} (hs:s≤k.bits):uD k (a:Int) (s:Int)=((a / 2 ^ s:Nat):Int):=by
 unfold uD
 have:min (s:Int).toNat k.bits=s:=by omega
 rw [this,Int.fdiv_eq_ediv_of_nonneg _ (by exact Int.le_of_lt (Int.pow_pos (by omega)))]
 simp
theorem zSI {a s:Nat} (hs:s≤64) (h:a*2 ^ s<9223372036854775808):zCH .i64 (a:Int) (s:Int)=some ((a*2 ^ s:Nat):Int):=by
 unfold zCH
 rw [if_neg (by omega),aS hs h]
theorem zOp {a s:Nat} (hs:s≤8) (h:a*2 ^ s<256):zCH .u8 (a:Int) (s:Int)=some ((a*2 ^ s:Nat):Int):=by
 unfold zCH
 rw [if_neg (by omega),zTx hs h]
theorem zTg {k:IntKind} {a s:Nat} (hs:s≤k.bits):zGe k (a:Int) (s:Int)=some ((a / 2 ^ s:Nat):Int):=by
 unfold zGe
 rw [if_neg (by omega),eL hs]
theorem zMv {a b s:Nat} (h:a<2 ^ s):a|||b*2 ^ s=a+b*2 ^ s:=by
 rw [Nat.or_comm,Nat.add_comm,Nat.mul_comm b]
 exact (Nat.two_pow_add_eq_or_of_lt h b).symm
theorem zTU {a b s:Nat} (h:b<2 ^ s):a*2 ^ s|||b=a*2 ^ s+b:=by
 rw [Nat.mul_comm a]
 exact (Nat.two_pow_add_eq_or_of_lt h a).symm
theorem zSt (a b:Nat):((a:Nat):Int).tdiv (b:Int)=((a / b:Nat):Int):=by
 rw [Int.tdiv_eq_ediv_of_nonneg (by omega)]
 exact (Int.natCast_ediv a b).symm
def rep (L N:Nat):List Nat:=(List.range L).map fun j=>N / 256 ^ j % 256
@[simp] theorem rep_len (L N:Nat):(rep L N).length=L:=by simp [rep]
end Go.Proofs.YtplchdlgdjcojaaGreatDoor
end
section
namespace Go.Proofs.YtplchdlgdjcojaaGreatDoor
open Go
set_option linter.unusedVariables false
set_option linter.unusedSimpArgs false
set_option maxRecDepth 10000
def kH:Nat:=1
theorem zFW:kH≤1000:=by decide
theorem zPW {l:List Int} (h:l.length≤1):wG l 0 (l.length:Int)=some l:=by
 unfold wG
 have hw:IntKind.wrap .i64 (0+1)=(1:Int):=by decide
 rw [hw,xR (t:=l) (by
  simp only
  rw [decide_eq_false (by omega:¬ ((1:Int)<(l.length:Int)))]
  rfl),bnd_some]
theorem zPz {l:List Int} (h:l.length≤1) (q:Int):vG l 0 (l.length:Int) q=some l:=by
 unfold vG
 have hw:IntKind.wrap .i64 ((l.length:Int) - 0)=(l.length:Int):=by
  rw [Int.sub_zero]; exact yX (by omega)
 rw [xR (t:=.inl l) (by
  simp only
  rw [hw,decide_eq_true (by omega:(l.length:Int)≤12),zPW h]
  simp [aY]),bnd_some]
 rfl
theorem zPF {l:List Int} (h:l.length≤1):∃ q,iU (IntKind.wrap .u64 (l.length:Int))=some q:=by
 rcases l with _ | ⟨x,_ | ⟨y,r⟩⟩
 ·exact ⟨0,by kernel_rfl⟩
 ·exact ⟨1,by kernel_rfl⟩
 ·simp at h
theorem zXc {l:List Int} (h:l.length≤kH):sS l=some (l.mergeSort fun x y=>decide (x≤y)):=by
 have h:l.length≤1:=h
 obtain ⟨q,hq⟩:=zPF h
 unfold sS
 rw [hq,bnd_some,zPz h,bnd_some]
 have hm:(l.mergeSort fun x y=>decide (x≤y))=l:=by
  rcases l with _ | ⟨x,_ | ⟨y,r⟩⟩
  ·simp
  ·simp
  ·simp at h
 rw [hm]
 simp [aY]
end Go.Proofs.YtplchdlgdjcojaaGreatDoor
end
section
namespace Go.Proofs.YtplchdlgdjcojaaGreatDoor
open Go
set_option linter.unusedSectionVars false
set_option linter.unusedVariables false
set_option maxRecDepth 10000
def zDz (m:Option (List (Int × List Int))):Option Unit:=some ()
theorem zPp {A:Option Nat} {m:Option (List (Int × List Int))} {r:Unit} (h:zDz m=some r):
  Fun Tryz.prog 260 [.map A] [.res (yO (yF .u8) (cod eu8) A m)]
   (fun v F'=>∃ g,v= .func (.func 269) #[] #[.pointer (some ⟨g,0,none⟩)]∧F'= [.res (Box g 133 [.map A]), .res (yO (yF .u8) (cod eu8) A m)]):=by
 refine Fun.intro Tryz.func260 rfl rfl rfl fun w R=>?_
 refine St.seq ?_
 refine St.region ?_
 refine St.box rfl rfl fun g=>?_
 refine St.p rfl rfl ?_
 refine St.done ?_
 refine St.thenN ?_
 refine St.seq ?_
 refine St.region ?_
 iterate 2 refine St.p rfl rfl ?_
 refine St.done ?_
 refine St.thenN ?_
 refine St.ret ?_
 exact St.finR Tryz.results260 (.tmp rfl .nil) rfl [.res (Box g 133 [.map A]), .res (yO (yF .u8) (cod eu8) A m)] ⟨g,rfl,rfl⟩ (fun _ w=>w)
def gG (m:Option (List (Int × List Int))):Option (List Int):=
 if (m.getD []).length≤kH then some (((m.getD []).map (·.1)).mergeSort fun x y=>decide (x≤y)) else none
theorem zPm {l l':List Int} (h:l.Perm l'):(l.mergeSort fun x y=>decide (x≤y))=l'.mergeSort fun x y=>decide (x≤y):=by
 have ht:∀ (a b c:Int),decide (a≤b)=true→decide (b≤c)=true→decide (a≤c)=true:=fun a b c h1 h2=>by simp at*; omega
 have hT:∀ (a b:Int),(decide (a≤b)||decide (b≤a))=true:=fun a b=>by simp; omega
 refine List.Perm.eq_of_pairwise (le:=fun x y=>decide (x≤y)=true) (fun a b _ _ h1 h2=>by simp at h1 h2; omega) (List.pairwise_mergeSort ht hT _) (List.pairwise_mergeSort ht hT _) ?_
 exact (List.mergeSort_perm _ _).trans (h.trans (List.mergeSort_perm _ _).symm)
theorem zPQ {l l':List Int} (h:(l.map (yF .u8).v).Perm (l'.map (yF .u8).v)):l.Perm l':=by
 have e:∀ l:List Int,(l.map (yF .u8).v).filterMap (fun v=>match v with | .int _ x=>some x | _=>none)=l:=fun l=>by
  induction l with
  | nil=>rfl
  | cons x r ih=>rw [List.map_cons,List.filterMap_cons]; show x::_=_; rw [ih]
 have:=h.filterMap (fun v=>match v with | .int _ x=>some x | _=>none)
 rw [e,e] at this
 exact this
theorem zIU:Ent Tryz.prog 272:=⟨_,Tryz.func272,by kernel_rfl,by kernel_rfl⟩
theorem zMp:Ent Tryz.prog 267:=⟨_,Tryz.func267,by kernel_rfl,by kernel_rfl⟩
theorem zSa:Ent Tryz.prog 268:=⟨_,Tryz.func268,by kernel_rfl,by kernel_rfl⟩
theorem zPO {g:Nat} {A:Option Nat} {m:Option (List (Int × List Int))} (hm:(qA m).length≤1000):
  Fun Tryz.prog 267 [.func (.func 269) #[] #[.pointer (some ⟨g,0,none⟩)]] [.res (Box g 133 [.map A]), .res (yO (yF .u8) (cod eu8) A m)]
   (fun v F'=>∃ B c ss,(ss.map (yF .u8).v).Perm ((qA m).map (yF .u8).v)∧v= .slice B ss.length c∧F'= [.res (Box g 133 [.map A]), .res (yO (yF .u8) (cod eu8) A m), .res (zM eu8 5 B c ss)]):=by
 refine Fun.intro Tryz.func267 rfl rfl rfl fun w R=>?_
 refine St.seq ?_
 refine St.region ?_
 refine St.p rfl rfl ?_
 refine St.done ?_
 refine St.thenN ?_
 refine St.seq ?_
 refine St.region ?_
 refine St.p rfl rfl ?_
 refine St.call (zJN hm) zIU rfl rfl rfl (fun _ w=>w) ?_
 rintro _ _ ⟨B,c,ss,hp,rfl,rfl⟩
 refine St.p rfl rfl ?_
 refine St.done ?_
 refine St.thenN ?_
 refine St.ret ?_
 exact St.finR Tryz.results267 (.tmp rfl .nil) rfl [.res (Box g 133 [.map A]), .res (yO (yF .u8) (cod eu8) A m), .res (zM eu8 5 B c ss)] ⟨B,c,ss,hp,rfl,rfl⟩ (fun _ w=>w)
theorem zJd {g:Nat} {A:Option Nat} {m:Option (List (Int × List Int))} {r:List Int} (h:gG m=some r):
  Fun Tryz.prog 259 [.func (.func 269) #[] #[.pointer (some ⟨g,0,none⟩)]] [.res (Box g 133 [.map A]), .res (yO (yF .u8) (cod eu8) A m)]
   (fun v F'=>∃ B c,v= .slice B r.length c∧F'= [.res (Box g 133 [.map A]), .res (yO (yF .u8) (cod eu8) A m), .res (zM eu8 5 B c r)]):=by
 unfold gG at h
 split at h
 ·rename_i hl
  injection h with h
  have hm0:(qA m).length≤kH:=by simpa [qA] using hl
  have hm:(qA m).length≤1000:=Nat.le_trans hm0 zFW
  refine Fun.intro Tryz.func259 rfl rfl rfl fun w R=>?_
  refine St.seq ?_
  refine St.region ?_
  refine St.p rfl rfl ?_
  refine St.done ?_
  refine St.thenN ?_
  refine St.seq ?_
  refine St.region ?_
  refine St.p rfl rfl ?_
  refine St.call (zPO hm) zMp rfl rfl rfl (fun _ w=>w) ?_
  rintro _ _ ⟨B,c,ss,hp,rfl,rfl⟩
  refine St.p rfl rfl ?_
  refine St.done ?_
  refine St.thenN ?_
  have hpk:=zPQ hp
  have hlen:ss.length≤kH:=by rw [hpk.length_eq]; exact hm0
  have hr:ss.mergeSort (fun x y=>decide (x≤y))=r:=by rw [zPm hpk]; exact h
  have hs8:=zXc hlen
  rw [hr] at hs8
  have hrl:ss.length=r.length:=by rw [←hr]; exact ((List.mergeSort_perm _ _).length_eq).symm
  refine St.seq ?_
  refine St.region ?_
  refine St.p rfl rfl ?_
  refine St.call (R:=.res (Box g 133 [.map A]):: .res (yO (yF .u8) (cod eu8) A m)::R) (fG hs8) zSa rfl rfl rfl (fun _ w=>w.front (.s (.s .z))) ?_
  rintro _ _ ⟨rfl,rfl⟩
  refine St.done ?_
  refine St.thenN ?_
  refine St.seq ?_
  refine St.region ?_
  iterate 2 refine St.p rfl rfl ?_
  refine St.done ?_
  refine St.thenN ?_
  refine St.ret ?_
  exact St.finR Tryz.results259 (.tmp rfl .nil) rfl [.res (Box g 133 [.map A]), .res (yO (yF .u8) (cod eu8) A m), .res (zM eu8 5 B c r)] ⟨B,c,by rw [hrl],rfl⟩ (fun _ w=>(w.front (.s (.s .z))).front (.s (.s .z)))
 ·cases h
end Go.Proofs.YtplchdlgdjcojaaGreatDoor
end
section
namespace Go.Proofs.YtplchdlgdjcojaaGreatDoor
open Go
set_option linter.unusedVariables false
set_option maxHeartbeats 4000000
set_option maxRecDepth 4000
structure zA where
 size:Int
 bytes:(List Int)
 wear:(List Int)
 steps:Int
 left:Int
 torn:Int
 down:Bool
abbrev zG (x:zA) (A1:Option Addr) (c1:Nat) (A2:Option Addr) (c2:Nat):List Value:= [.int .i64 x.size, .slice A1 x.bytes.length c1, .slice A2 x.wear.length c2, .int .i64 x.steps, .int .i64 x.left, .int .u8 x.torn, .bool x.down]
structure zC where
 d:Bool
 first:Int
 active:Int
 generation:Int
 all:(Option (List (Int × (List Int))))
 tail:Int
 clean:Bool
 ended:Bool
structure vZ where
 generation:Int
 all:(Option (List (Int × (List Int))))
 tail:Int
 clean:Bool
structure zF where
 Key:Int
 Value:(List Int)
 Delete:Bool
def xQ:List (LC zF):= [.v (fun x=>.int .u8 x.Key) (fun _=>rfl), .s (cod eu8) (fun x=>x.Value), .v (fun x=>.bool x.Delete) (fun _=>rfl)]
abbrev aP (x:vZ) (M1:Option Nat):List Value:= [.int .i64 x.generation, .map M1, .int .i64 x.tail, .bool x.clean]
abbrev zO (x:zC) (g1:Nat) (M2:Option Nat):List Value:= [.pointer (zBZ x.d g1), .int .i64 x.first, .int .i64 x.active, .int .i64 x.generation, .map M2, .int .i64 x.tail, .bool x.clean, .bool x.ended]
structure zK where
 Major:Int
 Minor:Int
 Patch:Int
structure zH where
 Name:ByteArray
 Version:zK
 Data:(List Int)
structure rA (α:Type) where
 e0:α
 e1:α
def rA.set {α:Type} (a:rA α) (q:Int) (y:α):Option (rA α):=match tH [a.e0,a.e1] q y with | some [x0,x1]=>some ⟨x0,x1⟩ | _=>none
theorem rA.set_e {α:Type} {a b:rA α} {q:Int} {y:α} (h:a.set q y=some b):tH [a.e0,a.e1] q y=some [b.e0,b.e1]:=by
 unfold rA.set at h
 split at h
 ·rename_i hs; injection h with h; subst h; exact hs
 cases h
theorem zMX {α β:Type} {l:List (α × β)} {a0 a1:α} (h:l.map (·.1)= [a0,a1]):∃ x0 x1,l= [(a0,x0),(a1,x1)]:=by
 match l,h with
 | [(_,x0),(_,x1)],h=>simp at h; obtain ⟨rfl,rfl⟩:=h; exact ⟨x0,x1,rfl⟩
structure yB where
 Image:zH
 Sum:Int
structure zB where
 Name:ByteArray
 Slots:(rA yB)
 Active:Int
 Running:Int
 Trial:Bool
structure zGP (α:Type) where
 e0:α
 e1:α
 e2:α
def zGP.set {α:Type} (a:zGP α) (q:Int) (y:α):Option (zGP α):=match tH [a.e0,a.e1,a.e2] q y with | some [x0,x1,x2]=>some ⟨x0,x1,x2⟩ | _=>none
theorem zGP.set_e {α:Type} {a b:zGP α} {q:Int} {y:α} (h:a.set q y=some b):tH [a.e0,a.e1,a.e2] q y=some [b.e0,b.e1,b.e2]:=by
 unfold zGP.set at h
 split at h
 ·rename_i hs; injection h with h; subst h; exact hs
 cases h
abbrev xJ (x:zH) (A1:Option Addr) (c1:Nat):List Value:= [.string x.Name, .int .i64 x.Version.Major, .int .i64 x.Version.Minor, .int .i64 x.Version.Patch, .slice A1 x.Data.length c1]
abbrev zN (x:zB) (A1:Option Addr) (c1:Nat) (A2:Option Addr) (c2:Nat):List Value:= [.string x.Name, .string x.Slots.e0.Image.Name, .int .i64 x.Slots.e0.Image.Version.Major, .int .i64 x.Slots.e0.Image.Version.Minor, .int .i64 x.Slots.e0.Image.Version.Patch, .slice A1 x.Slots.e0.Image.Data.length c1, .int .u32 x.Slots.e0.Sum, .string x.Slots.e1.Image.Name, .int .i64 x.Slots.e1.Image.Version.Major, .int .i64 x.Slots.e1.Image.Version.Minor, .int .i64 x.Slots.e1.Image.Version.Patch, .slice A2 x.Slots.e1.Image.Data.length c2, .int .u32 x.Slots.e1.Sum, .int .i64 x.Active, .int .i64 x.Running, .bool x.Trial]
structure zT where
 Component:ByteArray
 From:zK
 On:ByteArray
 At:zK
structure xF where
 Size:Int
 Part:Int
 Have:(List Bool)
 Data:(List Int)
structure zD where
 store:Bool
 devices:(List zB)
 needs:(List zT)
 phase:Int
 load:xF
 before:Int
 order:(List Int)
def zE:List (LC zB):= [.v (fun x=>.string x.Name) (fun _=>rfl), .v (fun x=>.string x.Slots.e0.Image.Name) (fun _=>rfl), .v (fun x=>.int .i64 x.Slots.e0.Image.Version.Major) (fun _=>rfl), .v (fun x=>.int .i64 x.Slots.e0.Image.Version.Minor) (fun _=>rfl), .v (fun x=>.int .i64 x.Slots.e0.Image.Version.Patch) (fun _=>rfl), .s (cod eu8) (fun x=>x.Slots.e0.Image.Data), .v (fun x=>.int .u32 x.Slots.e0.Sum) (fun _=>rfl), .v (fun x=>.string x.Slots.e1.Image.Name) (fun _=>rfl), .v (fun x=>.int .i64 x.Slots.e1.Image.Version.Major) (fun _=>rfl), .v (fun x=>.int .i64 x.Slots.e1.Image.Version.Minor) (fun _=>rfl), .v (fun x=>.int .i64 x.Slots.e1.Image.Version.Patch) (fun _=>rfl), .s (cod eu8) (fun x=>x.Slots.e1.Image.Data), .v (fun x=>.int .u32 x.Slots.e1.Sum) (fun _=>rfl), .v (fun x=>.int .i64 x.Active) (fun _=>rfl), .v (fun x=>.int .i64 x.Running) (fun _=>rfl), .v (fun x=>.bool x.Trial) (fun _=>rfl)]
def zR:Enc zT:=⟨8,fun x=> [.string x.Component, .int .i64 x.From.Major, .int .i64 x.From.Minor, .int .i64 x.From.Patch, .string x.On, .int .i64 x.At.Major, .int .i64 x.At.Minor, .int .i64 x.At.Patch],fun _=>rfl,fun _=>List.all_eq_true.1 rfl⟩
def oQ:List (LC yB):= [.v (fun x=>.string x.Image.Name) (fun _=>rfl), .v (fun x=>.int .i64 x.Image.Version.Major) (fun _=>rfl), .v (fun x=>.int .i64 x.Image.Version.Minor) (fun _=>rfl), .v (fun x=>.int .i64 x.Image.Version.Patch) (fun _=>rfl), .s (cod eu8) (fun x=>x.Image.Data), .v (fun x=>.int .u32 x.Sum) (fun _=>rfl)]
abbrev mZ (x:yB) (A1:Option Addr) (c1:Nat):List Value:= [.string x.Image.Name, .int .i64 x.Image.Version.Major, .int .i64 x.Image.Version.Minor, .int .i64 x.Image.Version.Patch, .slice A1 x.Image.Data.length c1, .int .u32 x.Sum]
structure zL where
 Name:ByteArray
 Version:zK
def zJ:Enc zL:=⟨4,fun x=> [.string x.Name, .int .i64 x.Version.Major, .int .i64 x.Version.Minor, .int .i64 x.Version.Patch],fun _=>rfl,fun _=>List.all_eq_true.1 rfl⟩
abbrev lW (x:zL):List Value:= [.string x.Name, .int .i64 x.Version.Major, .int .i64 x.Version.Minor, .int .i64 x.Version.Patch]
abbrev zCX (x:zT):List Value:= [.string x.Component, .int .i64 x.From.Major, .int .i64 x.From.Minor, .int .i64 x.From.Patch, .string x.On, .int .i64 x.At.Major, .int .i64 x.At.Minor, .int .i64 x.At.Patch]
abbrev zI (x:zD) (g1:Nat) (A2:Option Addr) (c2:Nat) (A3:Option Addr) (c3:Nat) (A4:Option Addr) (c4:Nat) (A5:Option Addr) (c5:Nat) (A6:Option Addr) (c6:Nat):List Value:= [.pointer (zBZ x.store g1), .slice A2 x.devices.length c2, .slice A3 x.needs.length c3, .int .i64 x.phase, .int .i64 x.load.Size, .int .i64 x.load.Part, .slice A4 x.load.Have.length c4, .slice A5 x.load.Data.length c5, .int .u8 x.before, .slice A6 x.order.length c6]
structure zX where
 Images:(List zH)
 Needs:(List zT)
def xC:List (LC zH):= [.v (fun x=>.string x.Name) (fun _=>rfl), .v (fun x=>.int .i64 x.Version.Major) (fun _=>rfl), .v (fun x=>.int .i64 x.Version.Minor) (fun _=>rfl), .v (fun x=>.int .i64 x.Version.Patch) (fun _=>rfl), .s (cod eu8) (fun x=>x.Data)]
abbrev sG (x:xF) (A1:Option Addr) (c1:Nat) (A2:Option Addr) (c2:Nat):List Value:= [.int .i64 x.Size, .int .i64 x.Part, .slice A1 x.Have.length c1, .slice A2 x.Data.length c2]
structure zU where
 b:(List Int)
 at_:Int
 bad:Bool
structure xE where
 Now:(List zL)
 Next:(List zL)
 Needs:(List zT)
structure xY where
 L:(List Int)
 At:Int
def zUe:List (LC (List Int)):= [.s (cod eu8) (fun x=>x)]
def zXX:List (LC Int):= [.v (fun x=>.int .u8 x) (fun _=>rfl)]
theorem zVp:Ent Tryz.prog 219:=en Tryz.func219 (by kernel_rfl)
noncomputable def oH (x_p0:Int) (y_p1:Int):Option (Int × Int):=
 some (IntKind.wrap .u64 ((IntKind.wrap .u64 ((IntKind.wrap .u64 ((uD .u64 x_p0 32)*(uD .u64 y_p1 32)))+(uD .u64 (IntKind.wrap .u64 ((IntKind.wrap .u64 ((uD .u64 x_p0 32)*(rK .u64 y_p1 4294967295)))+(uD .u64 (IntKind.wrap .u64 ((rK .u64 x_p0 4294967295)*(rK .u64 y_p1 4294967295))) 32))) 32)))+(uD .u64 (IntKind.wrap .u64 ((rK .u64 (IntKind.wrap .u64 ((IntKind.wrap .u64 ((uD .u64 x_p0 32)*(rK .u64 y_p1 4294967295)))+(uD .u64 (IntKind.wrap .u64 ((rK .u64 x_p0 4294967295)*(rK .u64 y_p1 4294967295))) 32))) 4294967295)+(IntKind.wrap .u64 ((rK .u64 x_p0 4294967295)*(uD .u64 y_p1 32))))) 32)),IntKind.wrap .u64 (x_p0*y_p1))
theorem zCg {x_p0 y_p1 r} (h:oH x_p0 y_p1=some r):
    Fun Tryz.prog 219 [.int .u64 x_p0, .int .u64 y_p1] [] (Val (.tuple #[.int .u64 r.1, .int .u64 r.2])):=by
 unfold oH at h
 refine Fun.intro Tryz.func219 rfl rfl rfl fun w R=>?_;refine .ab [0,1] rfl<|.ab [0,1,6] rfl<|.ab [0,1,6,7] rfl<|.ab [0,1,6,7,8] rfl<|.ab [0,1,6,7,8,9] rfl<|.ab [0,1,6,7,8,9,10] rfl<|.ab [0,1,6,7,9,11] rfl<|.ab [0,1,6,7,9,11,12] rfl<|.ab [0,1,6,7,9,12,13] rfl<|.ab [0,1,7,9,12,13] rfl<|.ab [0,1,4] rfl<|.ab [4,5] rfl ?_;cases h;exact .rv rfl rfl ⟨rfl,rfl⟩ zw
theorem zWK:Ent Tryz.prog 137:=en Tryz.func137 (by kernel_rfl)
noncomputable def mN (x_p0:Int) (y_p1:Int):Option (Int × Int):=
 bnd (oH x_p0 y_p1) fun r1=>some (r1.1,r1.2)
theorem zEt {x_p0 y_p1 r} (h:mN x_p0 y_p1=some r):
    Fun Tryz.prog 137 [.int .u64 x_p0, .int .u64 y_p1] [] (Val (.tuple #[.int .u64 r.1, .int .u64 r.2])):=by
 refine Fun.intro Tryz.func137 rfl rfl rfl fun w R=>?_;refine .ab [0,1] rfl<|.seq<|.condF rfl<|.sk<|.a 2 rfl<|.bd h fun r1 hr1 h=>.cv [] (zCg hr1) zVp rfl<|.b [8,9] rfl<|.ab [4,5] rfl ?_;cases h;exact .rv rfl rfl ⟨rfl,rfl⟩ zw
theorem zUL:Ent Tryz.prog 57:=en Tryz.func57 (by kernel_rfl)
noncomputable def uI (x_p0:(List Int)) (count:Int):Option (List Int):=
 bif decide (count<0) then (none) else (bnd (mN (IntKind.wrap .u64 (x_p0.length:Int)) (IntKind.wrap .u64 count)) fun r1=>bnd ((bif decide (r1.1>0) then (some true) else (some (decide (r1.2>9223372036854775807))):Option Bool)) fun o1=>bif o1 then (none) else (bnd (mkS 1 0 (IntKind.wrap .i64 r1.2) (IntKind.wrap .i64 r1.2)) fun l1=>bnd (iE l1 0 l1.length x_p0) fun l2=>bnd (yG (τ:=List Int) (fun (s1:Int × List Int)=>bif decide (s1.1<(s1.2.length:Int)) then (bnd (lE s1.2.length s1.1 (s1.2.length:Int)) fun n1=>bnd (lE s1.2.length 0 s1.1) fun n2=>bnd (sub s1.2 ((Int.toNat 0:Nat):Int) (((Int.toNat 0)+n2:Nat):Int)) fun l3=>bnd (iE s1.2 (Int.toNat s1.1) n1 l3) fun l4=>some (.next (IntKind.wrap .i64 (s1.1+((min l3.length n1:Nat):Int)),l4))) else (some (.done s1.2))) (((min x_p0.length l1.length:Nat):Int),l2)) fun o2=>some o2))
theorem oS {x_p0 count A1 c1 r} (h:uI x_p0 count=some r):
    Fun Tryz.prog 57 [.slice A1 x_p0.length c1, .int .i64 count] [.ro (SlL eu8 A1 c1 x_p0)] (fun v F=>∃ A2 c2,v= .slice A2 r.length c2∧F= [.res (zM eu8 5 A2 c2 r)]):=by
 refine Fun.intro Tryz.func57 rfl rfl rfl fun w R=>?_;refine .ab [0,1] rfl<|.seq<|.ab [0,1,10] rfl<|.cb h rfl (fun h=>?_) (fun h=>?_)
 ·refine .region ?_;cases h
 refine .sk<|.pr [0,1] rfl<|.a 5 rfl<|.bd h fun r1 hr1 h=>.cv [] (zEt hr1) zWK rfl<|.b [0,5,6] rfl<|.seq<|.seq<|.bd h fun o1 hj1 h=>.cu 0 [0,6, .s 26 (.bool o1)] [] rfl rfl ?_ ?_
 ·refine .region<|.n 3 rfl<|.gs 23 hj1 rfl (fun hj1=>?_) (fun hj1=>?_)
  ·cases hj1;exact .be rfl<|.hU rfl zw
  cases hj1;exact .be rfl<|.hU rfl zw
 refine .cb h rfl (fun h=>?_) (fun h=>?_)
 ·refine .region ?_;cases h
 refine .sk<|.pr [0,6] rfl<|.a 2 rfl<|.bd h fun l1 hl1 h=>.mkL (E:=eu8) 0 hl1 rfl rfl rfl rfl rfl rfl rfl rfl rfl rfl fun g1=>.b [0,7] rfl<|.a 2 rfl<|.bd h fun l2 hl2 h=>.copyW (E:=eu8) hl2 rfl rfl rfl rfl rfl .z (zOJ (.tail _ (.head _))) rfl rfl rfl rfl ?_;refine .ss 7 (zFG hl2) ?_;refine .ss 31 (zFG hl2)<|.bf [7,8] [0] 1 rfl rfl<|.seq<|.bd h fun o2 hl1 h=>.cutK 1 (fun (e3:Option Addr × Nat)=>[.s 7 (.slice e3.1 o2.length e3.2)]) (fun e3=>[.res (zM eu8 5 e3.1 e3.2 o2)]) rfl rfl ?_ ?_
 ·refine .block<|.loopQ hl1 1 (fun (s1:Int × List Int) (e2:Option Addr × Nat)=>[.s 7 (.slice e2.1 s1.2.length e2.2), .s 8 (.int .i64 s1.1)]) (fun s1 e2=>[.res (zM eu8 5 e2.1 e2.2 s1.2)]) rfl rfl ((some ⟨g1,0,none⟩),(Int.toNat (IntKind.wrap .i64 r1.2))) (zb rfl) (fun _ w=>w) ?_;rintro s1 ⟨A2,c2⟩ st1 hm1 hd1 h1;refine .seq<|.ab [7,8,37] rfl<|.cb h1 rfl (fun h1=>?_) (fun h1=>?_)
  ·refine .sk<|.pr [7,8] rfl<|.block<|.bd h1 fun n1 hn1 h1=>.bd h1 fun n2 hn2 h1=>.bd h1 fun l3 hl3 h1=>.bd h1 fun l4 hl4 h1=>.regionX (iN [0,4,8,16,20] (.alt (iN [15] (iN [27] (iN [31,32,36] .nil))) (iN [27] (iN [15] (iN [31,32,36] .nil))))) _ mixed (by kernel_rfl) (zl [] 1 rfl)<|.shareK (Y:=?Ynd1_0) 0 (fun (e:Unit)=>[7,8, .s 38 (.int .i64 s1.1), .s 41 (.slice (zEh A2 c2 (Int.toNat s1.1) 1) n1 (c2 - (Int.toNat s1.1))), .s 44 (.slice (zEh A2 c2 (Int.toNat 0) 1) n2 (c2 - (Int.toNat 0)))]) (fun e=>[]) rfl rfl (fun hnd1_0=>?mnd1_0) ?tnd1_0
   case mnd1_0=>
    refine .yn 5 rfl<|.xalt ?_ ?_
    ·refine .xef<|.part (E:=eu8) hn1 rfl rfl (.head _) rfl rfl rfl rfl rfl rfl rfl<|.xk (zl [] 1 rfl)<|.xef<|.part (E:=eu8) hn2 rfl rfl (.head _) rfl rfl rfl rfl rfl rfl rfl<|.xk (zl [] 1 rfl) ?_;refine hnd1_0 _ _ () ?_ ?_
     ·exact ⟨rfl,rfl,rfl,rfl,rfl,trivial⟩
     exact fun _ w=>w
    refine .xef<|.part (E:=eu8) hn2 rfl rfl (.head _) rfl rfl rfl rfl rfl rfl rfl<|.xk (zl [] 1 rfl)<|.xef<|.part (E:=eu8) hn1 rfl rfl (.head _) rfl rfl rfl rfl rfl rfl rfl<|.xk (zl [] 1 rfl) ?_;refine hnd1_0 _ _ () ?_ ?_
    ·exact ⟨rfl,rfl,rfl,rfl,rfl,trivial⟩
    exact fun _ w=>w
   case tnd1_0=>
    rintro ⟨⟩;refine .nm 1 rfl<|.xef<|.copyP (E:=eu8) zCs hl4 rfl rfl rfl (zVB hl3) .z (zOO (E:=eu8) zCs hl3 (.head _)) rfl rfl rfl rfl ?_;refine .ss 7 (zFG hl4)<|.xk (zl [] 1 rfl)<|.yn 2 rfl<|.xdone<|.blkN ?_;cases h1;exact .thenN<|.ag (A2,c2) hm1 rfl zw
  refine .xq rfl ?_;cases h1;cases hd1 _ rfl
  exact .thenN<|.hE (A2,c2) rfl zw
 rintro ⟨A3,c3⟩;refine .ab [4] rfl ?_;cases h;exact .rv rfl rfl ⟨A3,c3,rfl,rfl⟩ zw
theorem zVg:Ent Tryz.prog 14:=en Tryz.func14 (by kernel_rfl)
noncomputable def lF (sectors:Int) (size:Int):Option ((Option zA) × Int):=
 bnd ((bif decide (sectors<1) then (some true) else (bif decide (sectors>16) then (some true) else (bif decide (size<64) then (some true) else (some (decide (size>1024))))):Option Bool)) fun o1=>bif o1 then (some (none,2)) else (bnd (uI ([255]) (IntKind.wrap .i64 (sectors*size))) fun r1=>bnd (mkS 8 0 sectors sectors) fun l1=>some ((some (⟨size,r1,l1,0,0,0,false⟩:zA)),0))
theorem zEi {sectors size r} (h:lF sectors size=some r):
    Fun Tryz.prog 14 [.int .i64 sectors, .int .i64 size] [] (zMW r.1 (fun v F=>v= .tuple #[.pointer none, .int .i64 r.2]∧F= []) (fun q_ v F=>∃ g1 A1 c1 A2 c2,v= .tuple #[.pointer (some ⟨g1,0,none⟩), .int .i64 r.2]∧F= [.res (Box g1 131 (zG q_ A1 c1 A2 c2)), .res (zM eu8 5 A1 c1 q_.bytes), .res (zM yH 3 A2 c2 q_.wear)])):=by
 refine Fun.intro Tryz.func14 rfl rfl rfl fun w R=>?_;refine .ab [0,1] rfl<|.seq<|.seq<|.bd h fun o1 hj1 h=>.cu 0 [0,1, .s 19 (.bool o1)] [] rfl rfl ?_ ?_
 ·refine .region<|.n 3 rfl<|.gs 8 hj1 rfl (fun hj1=>?_) (fun hj1=>?_)
  ·cases hj1;exact .be rfl<|.hU rfl zw
  refine .n 4 rfl<|.gs 12 hj1 rfl (fun hj1=>?_) (fun hj1=>?_)
  ·cases hj1;exact .be rfl<|.hU rfl zw
  refine .n 4 rfl<|.gs 16 hj1 rfl (fun hj1=>?_) (fun hj1=>?_)
  ·cases hj1;exact .be rfl<|.hU rfl zw
  cases hj1;exact .be rfl<|.hU rfl zw
 refine .cb h rfl (fun h=>?_) (fun h=>?_)
 ·refine .ab [4,5] rfl ?_;cases h;exact .rv rfl rfl (mB ⟨rfl,rfl⟩) zw
 refine .sk<|.pr [0,1] rfl<|.seq<|.bd h fun r1 hr1 h=>.bd h fun l1 hl1 h=>.regionX (iN [0,8,12,16,24] (.alt (iN [7] (.alt (iN [23] (iN [31,32] (iN [39,40,44] .nil))) (iN [31] (iN [23,32] (iN [39,40,44] .nil))))) (iN [31] (iN [7] (iN [23,32] (iN [39,40,44] .nil)))))) _ mixed (by kernel_rfl) zw<|.shareK (Y:=?Ynd1_0) 0 (fun (e:Option Addr × Nat × Nat × Nat)=>[.s 20 (.int .i64 size), .s 25 (.slice e.1 r1.length e.2.1), .s 27 (.slice (some ⟨e.2.2.1,0,none⟩) l1.length (Int.toNat sectors)), .s 28 (.agg #[.int .i64 size, .slice e.1 r1.length e.2.1, .slice (some ⟨e.2.2.1,0,none⟩) l1.length (Int.toNat sectors), .int .i64 0, .int .i64 0, .int .u8 0, .bool false])]) (fun e=>[.res (zM yH 3 (some ⟨e.2.2.1,0,none⟩) (Int.toNat sectors) l1), .res (zM eu8 5 e.1 e.2.1 r1), .ro (SlL eu8 (some ⟨e.2.2.2,0,none⟩) ([255]:List Int).length ([255]))]) rfl rfl (fun hnd1_0=>?mnd1_0) ?tnd1_0
 case mnd1_0=>
  refine .shareK (Y:=?Ynd1_1) 0 (fun (e:Nat × Nat)=>[.s 20 (.int .i64 size), .s 21 (.slice (some ⟨e.1,0,none⟩) 1 1), .s 24 (.int .i64 (IntKind.wrap .i64 (sectors*size))), .s 27 (.slice (some ⟨e.2,0,none⟩) l1.length (Int.toNat sectors))]) (fun e=>[.res (zM yH 3 (some ⟨e.2,0,none⟩) (Int.toNat sectors) l1), .res (Box e.1 5 [.int .u8 255])]) rfl rfl (fun hnd1_1=>?mnd1_1) ?tnd1_1
  case mnd1_1=>
   refine .yn 5 rfl<|.xalt ?_ ?_
   ·refine .xef<|.bS rfl fun g1=>.xk (zl [] 1 rfl)<|.xalt ?_ ?_
    ·refine .xef<|.asrt (fun _ w=>w.litL (E:=eu8) (e:=5) [255] rfl rfl)<|.asrt (fun _ w=>w.meltL)<|.cr 2 [0] [] 0 (oS hr1) zUL rfl fun A1 c1=>.xk (zl [] 2 rfl)<|.xef<|.mkL (E:=yH) 0 hl1 rfl rfl rfl rfl rfl rfl rfl rfl rfl rfl fun g2=>.xk (zl [] 3 rfl)<|.yn 1 rfl ?_;refine hnd1_0 _ _ (A1,c1,g2,g1) ?_ ?_
     ·exact ⟨rfl,rfl,rfl,rfl,trivial⟩
     exact fun _ w=>w
    refine .xef<|.mkL (E:=yH) 0 hl1 rfl rfl rfl rfl rfl rfl rfl rfl rfl rfl fun g2=>.xk (zl [] 2 rfl) ?_;refine hnd1_1 _ _ (g1,g2) ?_ ?_
    ·exact ⟨rfl,rfl,rfl,rfl,trivial⟩
    exact fun _ w=>w
   refine .xef<|.mkL (E:=yH) 0 hl1 rfl rfl rfl rfl rfl rfl rfl rfl rfl rfl fun g2=>.xk (zl [] 1 rfl)<|.xef<|.bS rfl fun g1=>.xk (zl [] 2 rfl) ?_;refine hnd1_1 _ _ (g1,g2) ?_ ?_
   ·exact ⟨rfl,rfl,rfl,rfl,trivial⟩
   exact fun _ w=>(w.sl [1] 0 rfl)
  case tnd1_1=>
   rintro ⟨g1,g2⟩;refine .nm 2 rfl<|.xef<|.asrt (fun _ w=>(w.sl [1] 0 rfl).litL (E:=eu8) (e:=5) [255] rfl rfl)<|.asrt (fun _ w=>w.meltL)<|.cr 3 [0] [] 0 (oS hr1) zUL rfl fun A1 c1=>.xk (zl [] 3 rfl)<|.yn 1 rfl ?_;refine hnd1_0 _ _ (A1,c1,g2,g1) ?_ ?_
   ·exact ⟨rfl,rfl,rfl,rfl,trivial⟩
   exact fun _ w=>(w.sl [2] 0 rfl)
 case tnd1_0=>
  rintro ⟨A1,c1,g2,g1⟩;refine .nm 3 rfl<|.xef<|.box rfl rfl fun g3=>.xk (zl [] 4 rfl)<|.yn 2 rfl<|.xdone<|.thenN<|.pf [4,5] [0,0,0] 1 rfl rfl ?_;cases h;exact .rv rfl rfl (zCd ⟨g3,A1,c1,(some ⟨g2,0,none⟩),(Int.toNat sectors),rfl,rfl⟩) (zl [0,1] 0 rfl)
theorem zXz:Ent Tryz.prog 58:=en Tryz.func58 (by kernel_rfl)
noncomputable def sA (d_p0:zA):Option Int:=
 some (d_p0.wear.length:Int)
theorem cU {d_p0 A1 c1 A2 c2 gb1 r} (h:sA d_p0=some r):
    Fun Tryz.prog 58 [.pointer (some ⟨gb1,0,none⟩)] [.res (Box gb1 131 (zG d_p0 A1 c1 A2 c2)), .res (zM eu8 5 A1 c1 d_p0.bytes), .res (zM yH 3 A2 c2 d_p0.wear)] (fun v F=>v= .int .i64 r∧F= [.res (Box gb1 131 (zG d_p0 A1 c1 A2 c2)), .res (zM eu8 5 A1 c1 d_p0.bytes), .res (zM yH 3 A2 c2 d_p0.wear)]):=by
 unfold sA at h
 refine Fun.intro Tryz.func58 rfl rfl rfl fun w R=>?_;refine .ab [0] rfl<|.a 3 rfl<|.lb 2 0 rfl<|.b [2] rfl ?_;cases h;exact .rv rfl rfl ⟨rfl,rfl⟩ zw
theorem zGb:Ent Tryz.prog 59:=en Tryz.func59 (by kernel_rfl)
noncomputable def yI (d_p0:zA):Option Int:=
 some d_p0.size
theorem vE {d_p0 A1 c1 A2 c2 gb1 r} (h:yI d_p0=some r):
    Fun Tryz.prog 59 [.pointer (some ⟨gb1,0,none⟩)] [.res (Box gb1 131 (zG d_p0 A1 c1 A2 c2)), .res (zM eu8 5 A1 c1 d_p0.bytes), .res (zM yH 3 A2 c2 d_p0.wear)] (fun v F=>v= .int .i64 r∧F= [.res (Box gb1 131 (zG d_p0 A1 c1 A2 c2)), .res (zM eu8 5 A1 c1 d_p0.bytes), .res (zM yH 3 A2 c2 d_p0.wear)]):=by
 unfold yI at h
 refine Fun.intro Tryz.func59 rfl rfl rfl fun w R=>?_;refine .ab [0] rfl<|.a 3 rfl<|.lb 0 0 rfl<|.b [2] rfl ?_;cases h;exact .rv rfl rfl ⟨rfl,rfl⟩ zw
theorem zSx:Ent Tryz.prog 138:=en Tryz.func138 (by kernel_rfl)
noncomputable def uS (d_p0:zA) (at_p1:Int) (n_p2:Int):Option Bool:=
 bnd ((bif decide (at_p1≥0) then (bif decide (at_p1≤(d_p0.bytes.length:Int)) then (bif decide (n_p2≥0) then (some (decide (n_p2≤(IntKind.wrap .i64 ((d_p0.bytes.length:Int) - at_p1))))) else (some false)) else (some false)) else (some false):Option Bool)) fun o1=>some o1
theorem kR {d_p0 at_p1 n_p2 A1 c1 A2 c2 gb1 r} (h:uS d_p0 at_p1 n_p2=some r):
    Fun Tryz.prog 138 [.pointer (some ⟨gb1,0,none⟩), .int .i64 at_p1, .int .i64 n_p2] [.res (Box gb1 131 (zG d_p0 A1 c1 A2 c2)), .res (zM eu8 5 A1 c1 d_p0.bytes), .res (zM yH 3 A2 c2 d_p0.wear)] (fun v F=>v= .bool r∧F= [.res (Box gb1 131 (zG d_p0 A1 c1 A2 c2)), .res (zM eu8 5 A1 c1 d_p0.bytes), .res (zM yH 3 A2 c2 d_p0.wear)]):=by
 refine Fun.intro Tryz.func138 rfl rfl rfl fun w R=>?_;refine .ab [0,1,2] rfl<|.seq<|.bd h fun o1 hj1 h=>.cu 0 [.s 6 (.bool o1)] [] rfl rfl ?_ ?_
 ·refine .region<|.n 3 rfl<|.gs 9 hj1 rfl (fun hj1=>?_) (fun hj1=>?_)
  ·refine .n 4 rfl<|.gOn rfl rfl<|.lb 1 0 rfl<|.n 4 rfl<|.gs 18 hj1 rfl (fun hj1=>?_) (fun hj1=>?_)
   ·refine .n 4 rfl<|.gs 22 hj1 rfl (fun hj1=>?_) (fun hj1=>?_)
    ·refine .n 4 rfl<|.gOn rfl rfl<|.lb 1 0 rfl ?_;cases hj1;exact .be rfl<|.hU rfl zw
    cases hj1;exact .be rfl<|.hU rfl zw
   cases hj1;exact .be rfl<|.hU rfl zw
  cases hj1;exact .be rfl<|.hU rfl zw
 cases h;exact .rv rfl rfl ⟨rfl,rfl⟩ zw
theorem bO:Ent Tryz.prog 75:=en Tryz.func75 (by kernel_rfl)
noncomputable def zP (s_p0:(List Int)):Option (List Int):=
 bnd (app 1 ([]) s_p0) fun l1=>some l1
theorem yM {s_p0 A1 c1 r} (h:zP s_p0=some r):
    Fun Tryz.prog 75 [.slice A1 s_p0.length c1] [.ro (SlL eu8 A1 c1 s_p0)] (fun v F=>∃ A2 c2,v= .slice A2 r.length c2∧F= [.res (zM eu8 5 A2 c2 r)]):=by
 unfold zP at h
 refine Fun.intro Tryz.func75 rfl rfl rfl fun w R=>?_
 rcases A1 with _ | ad
 ·refine .fact (φ:=s_p0= []) (fun w hf=>(hf.ro (r:=SlL eu8 none c1 s_p0) (.head _)).2.2.1 rfl) fun hs=>?_;subst hs;have h:(some ([]):Option (List Int))=some r:=by simpa [app,bnd] using h
  refine .ab [0] rfl<|.seq<|.ab [0,4] rfl<|.condT rfl<|.abf [2] [] 1 rfl rfl<|.asrt (fun _ w=>w.nilL eu8 5) ?_;cases h;exact .rv rfl rfl ⟨none,0,rfl,rfl⟩ zw
 refine .ab [0] rfl<|.seq<|.ab [0,4] rfl<|.condF rfl<|.sk<|.pr [0] rfl<|.seq<|.region<|.bS rfl fun g1=>.p rfl rfl<|.asrt (fun _ w=>w.litL (E:=eu8) (e:=5) [] rfl rfl)<|.bd h fun l1 hl1 h=>.app (E:=eu8) hl1 rfl rfl rfl .z rfl rfl rfl rfl rfl rfl rfl rfl (fB (.tail _ (.head _))) rfl rfl fun A2 c2=>.bf [2] [0] 1 rfl rfl ?_;cases h;exact .rv rfl rfl ⟨A2,c2,rfl,rfl⟩ zw
theorem zUK:Ent Tryz.prog 60:=en Tryz.func60 (by kernel_rfl)
noncomputable def uK (d_p0:zA) (at_p1:Int) (n_p2:Int):Option (zA × (List Int) × Int):=
 bif d_p0.down then (some (d_p0, [],10)) else (bnd (uS d_p0 at_p1 n_p2) fun r1=>bif !r1 then (some (d_p0, [],2)) else (bnd (lE d_p0.bytes.length at_p1 (IntKind.wrap .i64 (at_p1+n_p2))) fun n1=>bnd (sub d_p0.bytes ((Int.toNat at_p1:Nat):Int) (((Int.toNat at_p1)+n1:Nat):Int)) fun l1=>bnd (zP l1) fun r2=>some (d_p0,r2,0)))
theorem iY {d_p0 at_p1 n_p2 A1 c1 A2 c2 gb1 r} (h:uK d_p0 at_p1 n_p2=some r):
    Fun Tryz.prog 60 [.pointer (some ⟨gb1,0,none⟩), .int .i64 at_p1, .int .i64 n_p2] [.res (Box gb1 131 (zG d_p0 A1 c1 A2 c2)), .res (zM eu8 5 A1 c1 d_p0.bytes), .res (zM yH 3 A2 c2 d_p0.wear)] (fun v F=>∃ A3 c3 A4 c4 A5 c5,v= .tuple #[.slice A5 r.2.1.length c5, .int .i64 r.2.2]∧F= [.res (Box gb1 131 (zG r.1 A3 c3 A4 c4)), .res (zM eu8 5 A3 c3 r.1.bytes), .res (zM yH 3 A4 c4 r.1.wear), .res (zM eu8 5 A5 c5 r.2.1)]):=by
 refine Fun.intro Tryz.func60 rfl rfl rfl fun w R=>?_;refine .ab [0,1,2] rfl<|.seq<|.block<|.a 3 rfl<|.lb 6 0 rfl<|.b [0,1,2,8] rfl<|.cb h rfl (fun h=>?_) (fun h=>?_)
 ·refine .ab [6,7] rfl<|.asrt (fun _ w=>w.nilL eu8 5) ?_;cases h;exact .rv rfl rfl ⟨A1,c1,A2,c2,none,0,rfl,rfl⟩ (zl [1,1,1] 0 rfl)
 refine .a 3 rfl<|.bd h fun r1 hr1 h=>.cq 3 [] [] 0 (kR hr1) zSx rfl<|.b [0,1,2,13] rfl<|.cb h rfl (fun h=>?_) (fun h=>?_)
 ·refine .ab [6,7] rfl<|.asrt (fun _ w=>w.nilL eu8 5) ?_;cases h;exact .rv rfl rfl ⟨A1,c1,A2,c2,none,0,rfl,rfl⟩ (zl [1,1,1] 0 rfl)
 refine .skip<|.blkN<|.thenN<|.pr [0,1,2] rfl<|.a 3 rfl<|.lb 1 0 rfl<|.n 4 rfl<|.bd h fun n1 hn1 h=>.part (E:=eu8) hn1 rfl rfl (.tail _ (.head _)) rfl rfl rfl rfl rfl rfl rfl<|.bd h fun l1 hl1 h=>?_;refine .ss 27 (zRs hl1)<|.bd h fun r2 hr2 h=>.callL (yM hr2) bO rfl rfl rfl rfl (gX.part zCs hl1 (.tail _ (.head _)) gX.nil) (by rintro _ _ ⟨_,_,rfl,rfl⟩; exact ⟨zPg _ _ _ _ _,True.intro⟩) ?_;rintro _ _ ⟨A3,c3,rfl,rfl⟩;refine .nm 4 rfl<|.b [6,7] rfl ?_;cases h;exact .rv rfl rfl ⟨A1,c1,A2,c2,A3,c3,rfl,rfl⟩ (zl [1,1,1] 0 rfl)
theorem zWn:Ent Tryz.prog 220:=en Tryz.func220 (by kernel_rfl)
noncomputable def rM (b_p0:(List Int)):Option (zF × Int × Bool):=
 bif decide ((b_p0.length:Int)<2) then (some ((⟨0, [],false⟩:zF),0,false)) else (bnd (elt b_p0 1) fun x1=>bif (x1==128) then (bnd (elt b_p0 0) fun x2=>some ((⟨x2, [],true⟩:zF),2,true)) else (bnd ((bif decide (x1>28) then (some true) else (some (decide ((b_p0.length:Int)<(IntKind.wrap .i64 (2+(IntKind.wrap .i64 x1)))))):Option Bool)) fun o1=>bif o1 then (some ((⟨0, [],false⟩:zF),0,false)) else (bnd (elt b_p0 0) fun x3=>bnd (sub b_p0 2 (IntKind.wrap .i64 (2+(IntKind.wrap .i64 x1)))) fun l1=>bnd (zP l1) fun r1=>some ((⟨x3,r1,false⟩:zF),IntKind.wrap .i64 (2+(IntKind.wrap .i64 x1)),true))))
theorem zCh {b_p0 A1 c1 r} (h:rM b_p0=some r):
    Fun Tryz.prog 220 [.slice A1 b_p0.length c1] [.ro (SlL eu8 A1 c1 b_p0)] (fun v F=>∃ A2 c2,v= .tuple #[.agg #[.int .u8 r.1.Key, .slice A2 r.1.Value.length c2, .bool r.1.Delete], .int .i64 r.2.1, .bool r.2.2]∧F= [.ro (SlL eu8 A2 c2 r.1.Value)]):=by
 refine Fun.intro Tryz.func220 rfl rfl rfl fun w R=>?_;refine .seq<|.region<|.alloc rfl rfl fun g1=>.b [0,2] rfl<|.seq<|.block<|.ab [0,2,6] rfl<|.cb h rfl (fun h=>?_) (fun h=>?_)
 ·refine .a 1 rfl<|.sb 0 0 rfl<|.bf [2,3,4] [0] 1 rfl rfl<|.asrt (fun _ w=>w.nilSl (cod eu8)) ?_;cases h;exact .rt rfl Tryz.results220 (.cell rfl (.tail _ (.head _)) rfl (.tmp rfl (.tmp rfl .nil))) rfl ⟨none,0,rfl,rfl⟩ (zk 1 2 [0] [] 0 rfl)
 refine .a 1 rfl<|.bd h fun x1 hx1 h=>.ix1 hx1 1 rfl fun b1 ob1=>.ld ob1 0 0 rfl<|.bf [0,2,11] [] 1 rfl rfl<|.cb h rfl (fun h=>?_) (fun h=>?_)
 ·refine .a 1 rfl<|.bd h fun x2 hx2 h=>.ix1 hx2 1 rfl fun b2 ob2=>.ld ob2 0 0 rfl<|.p rfl rfl<|.sb 0 1 rfl<|.bf [2,3,4] [0] 2 rfl rfl<|.asrt (fun _ w=>w.nilSl (cod eu8)) ?_;cases h;exact .rt rfl Tryz.results220 (.cell rfl (.tail _ (.head _)) rfl (.tmp rfl (.tmp rfl .nil))) rfl ⟨none,0,rfl,rfl⟩ (zk 1 2 [0] [] 0 rfl)
 refine .skip<|.blkN<|.thenN<|.pr [0,2] rfl<|.a 1 rfl<|.ix1 hx1 1 rfl fun b3 ob3=>.ld ob3 0 0 rfl<|.bf [0,2,5] [] 1 rfl rfl<|.seq<|.seq<|.bd h fun o1 hj1 h=>.cu 0 [0,2,5, .s 34 (.bool o1)] [] rfl rfl ?_ ?_
 ·refine .region<|.p rfl rfl<|.ix1 hx1 1 rfl fun b4 ob4=>.ld ob4 0 0 rfl<|.n 2 rfl<|.gs 29 hj1 rfl (fun hj1=>?_) (fun hj1=>?_)
  ·cases hj1;exact .be rfl<|.hU rfl (zl [] 1 rfl)
  cases hj1;exact .be rfl<|.hU rfl (zl [] 1 rfl)
 refine .cb h rfl (fun h=>?_) (fun h=>?_)
 ·refine .a 1 rfl<|.sb 0 0 rfl<|.bf [2,3,4] [0] 1 rfl rfl<|.asrt (fun _ w=>w.nilSl (cod eu8)) ?_;cases h;exact .rt rfl Tryz.results220 (.cell rfl (.tail _ (.head _)) rfl (.tmp rfl (.tmp rfl .nil))) rfl ⟨none,0,rfl,rfl⟩ (zk 1 2 [0] [] 0 rfl)
 refine .sk<|.pr [0,2,5] rfl<|.seq<|.regionX (iN [0,4,8,12,16,21,32,27,28,39,40,44] .nil) _ mixed (by kernel_rfl) (zl [] 1 rfl)<|.yn 1 rfl<|.bd h fun x3 hx3 h=>.openA (.tail _ (.head _)) hx3 fun b5 ob5 hqb5=>.asrt (fun _ w=>Sat.addC hqb5 (.tail _ (.head _)) hx3 w) ?_;have hc1:=fun w h=>Sat.addC hqb5 (.head _) hx3 ((fun (w:World) (h:Sat (.ro (SlL eu8 A1 c1 b_p0)::R) w)=>h) w h);refine .xfl (fun _ h=>h) (Rd.ixL (E:=eu8) hqb5 hx3 rfl rfl rfl rfl rfl rfl rfl) rfl<|.xfl hc1 (Rd.load ob5 0 rfl (.head _) rfl rfl) rfl<|.yn 2 rfl<|.bd h fun l1 hl1 h=>.openS (zm 2 rfl) hl1 fun A2 c2 hS1=>?_;have hc2:=fun w h=>Sat.addS hS1 (.tail _ (.head _)) hl1 (hc1 w h);refine .xfx (Rd.sub hS1 hl1 (zm 3 rfl) rfl rfl rfl rfl rfl rfl rfl rfl) rfl<|.yn 1 rfl<|.xef<|.bd h fun r1 hr1 h=>.cr 5 [0] [] 0 (yM hr1) bO rfl fun A3 c3=>.xk (zl [] 4 rfl)<|.yn 1 rfl<|.xef<|.sb 0 3 rfl<|.xk (zl [] 4 rfl)<|.yn 2 rfl<|.xdone<|.thenN<|.pf [2,3,4] [0,0] 3 rfl rfl<|.asrt (fun _ w=>(w.sl [1] 0 rfl).meltL) ?_;cases h;exact .rt rfl Tryz.results220 (.cell rfl (.tail _ (.head _)) rfl (.tmp rfl (.tmp rfl .nil))) rfl ⟨A3,c3,rfl,rfl⟩ (zk 1 2 [0] [] 0 rfl)
theorem zWe:Ent Tryz.prog 139:=en Tryz.func139 (by kernel_rfl)
noncomputable def qO (b_p0:(List Int)):Option ((List zF) × Int × Bool):=
 bnd ((bif ((b_p0.length:Int)==0) then (some true) else (bnd (elt b_p0 0) fun x1=>bif decide (x1<1) then (some true) else (some (decide (x1>32)))):Option Bool)) fun o1=>bif o1 then (some ([],0,false)) else (bnd (elt b_p0 0) fun x2=>bnd (yG (τ:=((List zF) × Int × Bool) ⊕ (List zF × Int)) (fun (s1:List zF × Int × Int)=>bif decide (s1.2.2<x2) then (bnd (sub b_p0 s1.2.1 (b_p0.length:Int)) fun l1=>bnd (rM l1) fun r1=>bif !r1.2.2 then (some (.done (.inl ([],0,false)))) else (bnd (app 40 s1.1 [r1.1]) fun l2=>some (.next (l2,IntKind.wrap .i64 (s1.2.1+r1.2.1),IntKind.wrap .u8 (s1.2.2+1))))) else (some (.done (.inr (s1.1,s1.2.1))))) ([],1,0)) fun o2=>wT o2 fun o3=>bnd ((bif (o3.2==(b_p0.length:Int)) then (some true) else (bnd (elt b_p0 o3.2) fun x3=>some (x3 != 0)):Option Bool)) fun o4=>bif o4 then (some ([],0,false)) else (some (o3.1,IntKind.wrap .i64 (o3.2+1),true)))
theorem zDg {b_p0 A1 c1 r} (h:qO b_p0=some r):
    Fun Tryz.prog 139 [.slice A1 b_p0.length c1] [.ro (SlL eu8 A1 c1 b_p0)] (fun v F=>∃ A2 c2,v= .tuple #[.slice A2 r.1.length c2, .int .i64 r.2.1, .bool r.2.2]∧F= [.res (xK (yL xQ) 107 A2 c2 r.1)]):=by
 refine Fun.intro Tryz.func139 rfl rfl rfl fun w R=>?_;refine .ab [0] rfl<|.seq<|.seq<|.bd h fun o1 hj1 h=>.cu 0 [0, .s 24 (.bool o1)] [] rfl rfl ?_ ?_
 ·refine .region<|.n 4 rfl<|.gs 13 hj1 rfl (fun hj1=>?_) (fun hj1=>?_)
  ·cases hj1;exact .be rfl<|.hU rfl zw
  refine .n 1 rfl<|.gOn rfl rfl<|.bd hj1 fun x1 hx1 hj1=>.ix1 hx1 0 rfl fun b1 ob1=>.gOn rfl rfl<|.ld ob1 0 0 rfl<|.n 3 rfl<|.gs 19 hj1 rfl (fun hj1=>?_) (fun hj1=>?_)
  ·cases hj1;exact .be rfl<|.hU rfl (zl [] 1 rfl)
  refine .n 1 rfl<|.gOn rfl rfl<|.ix1 hx1 1 rfl fun b2 ob2=>.gOn rfl rfl<|.ld ob2 0 0 rfl ?_;cases hj1;exact .be rfl<|.hU rfl (zl [] 2 rfl)
 refine .cb h rfl (fun h=>?_) (fun h=>?_)
 ·refine .abf [2,3,4] [] 1 rfl rfl<|.asrt (fun _ w=>w.nilC (yL xQ) 107) ?_;cases h;exact .rv rfl rfl ⟨none,0,rfl,rfl⟩ zw
 refine .sk<|.pr [0] rfl<|.ae rfl<|.ae rfl<|.seq<|.a 1 rfl<|.bd h fun x2 hx2 h=>.ix1 hx2 0 rfl fun b3 ob3=>.ld ob3 0 0 rfl<|.bf [0,5,6,27,28] [] 1 rfl rfl<|.asrt (fun _ w=>w.nilC (yL xQ) 107)<|.bd h fun o2 hl1 h=>.cutJ 1 (fun (o3:List zF × Int) (e3:Option Addr × Nat)=>[0, .s 5 (.slice e3.1 o3.1.length e3.2), .s 6 (.int .i64 o3.2)]) (fun o3 e3=>[.res (xK (yL xQ) 107 e3.1 e3.2 o3.1)]) rfl rfl (fun o3=>o2= .inr o3) ?_ ?_
 ·refine .block<|.loopQ hl1 1 (fun (s1:List zF × Int × Int) (e2:Option Addr × Nat)=>[0, .s 5 (.slice e2.1 s1.1.length e2.2), .s 6 (.int .i64 s1.2.1),27, .s 28 (.int .u8 s1.2.2)]) (fun s1 e2=>[.res (xK (yL xQ) 107 e2.1 e2.2 s1.1)]) rfl rfl (none,0) (zb rfl) (fun _ w=>w) ?_;rintro s1 ⟨A2,c2⟩ st1 hm1 hd1 h1;refine .ae rfl<|.seq<|.cb h1 rfl (fun h1=>?_) (fun h1=>?_)
  ·refine .sk<|.pr [0,5,6,27,28] rfl<|.seq<|.block<|.a 2 rfl<|.bd h1 fun l1 hl1 h1=>.sub (E:=(cod eu8)) rfl rfl (.tail _ (.head _)) rfl rfl rfl rfl rfl rfl rfl hl1 fun A4 c4=>.bd h1 fun r1 hr1 h1=>.cr 4 [0] [] 0 (zCh hr1) zWn rfl fun A5 c5=>.n 4 rfl<|.alloc rfl rfl fun g1=>.sb 0 0 rfl<|.bf [0,5,6,7,8,9,27,28] [0,0] 1 rfl rfl<|.seq<|.ab [0,5,6,7,8,27,28,39] rfl<|.cb h1 rfl (fun h1=>?_) (fun h1=>?_)
   ·refine .abf [2,3,4] [] 4 rfl rfl<|.asrt (fun _ w=>w.nilC (yL xQ) 107) ?_;cases h1;cases hd1 _ rfl
    have h:some _=some _:=h;cases h;exact .rv rfl rfl ⟨none,0,rfl,rfl⟩ zw
   refine .sk<|.pr [0,5,6,7,8,27,28] rfl<|.region<|.p rfl rfl<|.lb 0 0 rfl<|.bS rfl fun g2=>.bd h1 fun l2 hl2 h1=>.appC (E:=(yL xQ)) hl2 rfl rfl rfl (.s (.s (.s .z))) rfl rfl rfl rfl rfl rfl rfl rfl (zDR (ls:=xQ) [(r1.1,((A5,c5),()))] (.head _) rfl rfl rfl ⟨(zm 2 rfl),trivial⟩) rfl rfl fun A6 c6=>.n 5 rfl<|.done<|.blkN<|.thenN<|.pf [0,5,6,27,28] [0] 3 rfl rfl<|.region ?_;cases h1;exact .be rfl<|.ag (A6,c6) hm1 rfl zw
  refine .xq rfl ?_;cases h1;cases hd1 _ rfl
  exact .thenN<|.hereI (s1.1,s1.2.1) (A2,c2) rfl (zb rfl) zw
 rintro o3 ⟨A3,c3⟩ ho;subst ho;have h:=unR h;refine .seq<|.seq<|.bd h fun o4 hj2 h=>.cu 2 [5,6, .s 58 (.bool o4)] [0] rfl rfl ?_ ?_
 ·refine .region<|.n 5 rfl<|.gs 52 hj2 rfl (fun hj2=>?_) (fun hj2=>?_)
  ·cases hj2;exact .be rfl<|.hU rfl (zl [0] 1 rfl)
  refine .n 2 rfl<|.gOn rfl rfl<|.bd hj2 fun x3 hx3 hj2=>.ix1 hx3 1 rfl fun b4 ob4=>.gOn rfl rfl<|.ld ob4 0 0 rfl ?_;cases hj2;exact .be rfl<|.hU rfl (zl [1] 2 rfl)
 refine .cb h rfl (fun h=>?_) (fun h=>?_)
 ·refine .abf [2,3,4] [] 1 rfl rfl<|.asrt (fun _ w=>w.nilC (yL xQ) 107) ?_;cases h;exact .rv rfl rfl ⟨none,0,rfl,rfl⟩ zw
 refine .sk<|.pr [5,6] rfl<|.ab [2,3,4] rfl ?_;cases h;exact .rv rfl rfl ⟨A3,c3,rfl,rfl⟩ zw
theorem zVj:Ent Tryz.prog 221:=en Tryz.func221 (by kernel_rfl)
theorem zSo:Ent Tryz.prog 140:=en Tryz.func140 (by kernel_rfl)
noncomputable def wO (v_p0:(Option (List (Int × (List Int))))) (l_p1:(List zF)):Option (Option (List (Int × (List Int)))):=
 bnd (aJ v_p0) fun r1=>bnd (yG (τ:=(Option (List (Int × (List Int))))) (fun (s1:Int × (Option (List (Int × (List Int)))))=>bif decide (s1.1<(l_p1.length:Int)) then (bnd (elt l_p1 s1.1) fun x1=>bif x1.Delete then (some (.next (IntKind.wrap .i64 (s1.1+1),(s1.2.map fun l=>zDm (yF .u8).eq l x1.Key)))) else (bnd (zP x1.Value) fun r2=>bnd (mapM s1.2) fun m1=>some (.next (IntKind.wrap .i64 (s1.1+1),(some (nD (yF .u8).eq m1 x1.Key r2)))))) else (some (.done s1.2))) (0,r1)) fun o1=>some o1
theorem mG {v_p0 l_p1 A1 c1 M1 r} (h:wO v_p0 l_p1=some r):
    Fun Tryz.prog 140 [.map M1, .slice A1 l_p1.length c1] [.ro (Sl (yL xQ) A1 c1 l_p1), .res (yO (yF .u8) (cod eu8) M1 v_p0)] (fun v F=>∃ M2,v= .map M2∧F= [.res (yO (yF .u8) (cod eu8) M1 v_p0), .res (yO (yF .u8) (cod eu8) M2 r)]):=by
 refine Fun.intro Tryz.func140 rfl rfl rfl fun w R=>?_;refine .ab [0,1] rfl<|.a 1 rfl<|.bd h fun r1 hr1 h=>.call (zLy hr1) zVj rfl rfl rfl (zl [1] 0 rfl) ?_;rintro _ _ ⟨M2,rfl,rfl⟩;refine .nm 3 rfl<|.b [1,5] rfl<|.seq<|.ab [5,10,11,12] rfl<|.bd h fun o1 hl1 h=>.cutK 3 (fun (e2:Option Nat)=>[.s 5 (.map e2)]) (fun e2=>[.res (yO (yF .u8) (cod eu8) e2 o1),0]) rfl rfl ?_ ?_
 ·refine .block<|.loopQ hl1 2 (fun (s1:Int × (Option (List (Int × (List Int))))) (e1:Option Nat)=>[.s 5 (.map e1),10,11, .s 12 (.int .i64 s1.1)]) (fun s1 e1=>[.res (yO (yF .u8) (cod eu8) e1 s1.2),0]) rfl rfl M2 (zb rfl) (zl [1] 0 rfl) ?_;rintro s1 M3 st1 hm1 hd1 h1;refine .ae rfl<|.seq<|.cb h1 rfl (fun h1=>?_) (fun h1=>?_)
  ·refine .sk<|.pr [5,10,11,12] rfl<|.seq<|.block<|.seq<|.region<|.bd h1 fun x1 hx1 h1=>.ix3 hx1 2 rfl fun b1 ob1 ex1=>?_;obtain ⟨⟨A2,c2⟩,_⟩:=ex1;refine .nm 5 rfl<|.ld ob1 0 0 rfl<|.alloc rfl rfl fun g1=>.sb 0 0 rfl<|.bf [5,7,10,11,12] [0] 1 rfl rfl<|.a 1 rfl<|.lb 2 0 rfl<|.b [5,7,10,11,12,17] rfl<|.cb h1 rfl (fun h1=>?_) (fun h1=>?_)
   ·refine .region<|.n 2 rfl<|.lb 0 0 rfl<|.mapDeleteVN (K:=(yF .u8)) x1.Key rfl rfl (.s (.s .z)) rfl rfl rfl rfl rfl<|.done<|.blkN<|.thenN<|.pf [5,10,11,12] [0] 2 rfl rfl<|.region ?_;cases h1;exact .be rfl<|.ag M3 hm1 rfl zw
   refine .regionX (iN [0,4,8,12,17,23,27] .nil) _ mixed (by kernel_rfl) (zl [0,0] 1 rfl)<|.yn 2 rfl<|.yl 0 0 rfl<|.yn 1 rfl<|.yx 1 0 rfl<|.xef<|.bd h1 fun r2 hr2 h1=>.cr 6 [1] [] 0 (yM hr2) bO rfl fun A3 c3=>.xk (zl [1,1] 2 rfl)<|.xef<|.asrt (fun _ w=>w.meltL)<|.bd h1 fun m1 hm1 h1=>.mapUpdateV (K:=(yF .u8)) hm1 x1.Key rfl rfl rfl rfl (.s (.s (.s .z))) (.head _) rfl rfl rfl rfl<|.xk (zl [] 2 rfl)<|.xdone<|.blkN<|.thenN<|.pf [5,10,11,12] [0] 3 rfl rfl<|.region ?_;cases h1;exact .be rfl<|.ag M3 hm1 rfl zw
  refine .xq rfl ?_;cases h1;cases hd1 _ rfl
  exact .thenN<|.hE M3 rfl (zl [0,0] 1 rfl)
 rintro M4;refine .ab [4] rfl ?_;cases h;exact .rv rfl rfl ⟨M4,rfl,rfl⟩ (zl [1] 0 rfl)
theorem zWS:Ent Tryz.prog 223:=en Tryz.func223 (by kernel_rfl)
noncomputable def sO (x_p0:Int):Option Bool:=
 some (x_p0 != 255)
theorem zBq {x_p0 r} (h:sO x_p0=some r):
    Fun Tryz.prog 223 [.int .u8 x_p0] [] (Val (.bool r)):=by
 unfold sO at h
 refine Fun.intro Tryz.func223 rfl rfl rfl fun w R=>?_;refine .ab [0] rfl<|.ab [2] rfl ?_;cases h;exact .rv rfl rfl ⟨rfl,rfl⟩ zw
theorem zQG:Ent Tryz.prog 255:=en Tryz.func255 (by kernel_rfl)
noncomputable def vQ (s_p0:(List Int)):Option Int:=
 bnd (yG (τ:=Int ⊕ Unit) (fun (s1:Int)=>bif decide (s1<(s_p0.length:Int)) then (bnd (elt s_p0 s1) fun x1=>bnd (sO x1) fun r1=>bif r1 then (some (.done (.inl s1))) else (some (.next (IntKind.wrap .i64 (s1+1))))) else (some (.done (.inr ())))) 0) fun o1=>wT o1 fun o2=>some (-1)
theorem mR {s_p0 A1 c1 r} (h:vQ s_p0=some r):
    Fun Tryz.prog 255 [.slice A1 s_p0.length c1, .func (.func 223) #[] #[]] [.ro (SlL eu8 A1 c1 s_p0)] (Val (.int .i64 r)):=by
 refine Fun.intro Tryz.func255 rfl rfl rfl fun w R=>?_;refine .ab [0,1] rfl<|.seq<|.ab [0,1,7,8] rfl<|.bd h fun o1 hl1 h=>.cutJ 1 (fun (o2:Unit) (e2:Unit)=>[]) (fun o2 e2=>[]) rfl rfl (fun o2=>o1= .inr o2) ?_ ?_
 ·refine .block<|.loopQ hl1 0 (fun (s1:Int) (e1:Unit)=>[0,1,7, .s 8 (.int .i64 s1)]) (fun s1 e1=>[]) rfl rfl () (zb rfl) (fun _ w=>w) ?_;rintro s1 e1 st1 hm1 hd1 h1;refine .ae rfl<|.seq<|.cb h1 rfl (fun h1=>?_) (fun h1=>?_)
  ·refine .sk<|.pr [0,1,7,8] rfl<|.seq<|.block<|.ab [0,1,5,7,8] rfl<|.a 3 rfl<|.bd h1 fun x1 hx1 h1=>.ix1 hx1 0 rfl fun b1 ob1=>.ld ob1 0 0 rfl<|.bd h1 fun r1 hr1 h1=>.cv [] (zBq hr1) zWS rfl<|.bf [0,1,5,7,8,16] [] 1 rfl rfl<|.cb h1 rfl (fun h1=>?_) (fun h1=>?_)
   ·refine .abf [4] [] 1 rfl rfl ?_;cases h1;cases hd1 _ rfl
    have h:some _=some _:=h;cases h;exact .rv rfl rfl ⟨rfl,rfl⟩ zw
   refine .skip<|.blkN<|.thenN<|.pr [0,1,7,8] rfl<|.region ?_;cases h1;exact .be rfl<|.ag () hm1 rfl zw
  refine .xq rfl ?_;cases h1;cases hd1 _ rfl
  exact .thenN<|.hereI () () rfl trivial (zl [] 1 rfl)
 rintro o2 e2 ho;subst ho;have h:=unR h;refine .ae rfl ?_;cases h;exact .rv rfl rfl ⟨rfl,rfl⟩ zw
theorem zQR:Ent Tryz.prog 222:=en Tryz.func222 (by kernel_rfl)
noncomputable def wX (s_p0:(List Int)):Option Bool:=
 bnd (vQ s_p0) fun r1=>some (decide (r1≥0))
theorem nE {s_p0 A1 c1 r} (h:wX s_p0=some r):
    Fun Tryz.prog 222 [.slice A1 s_p0.length c1, .func (.func 223) #[] #[]] [.ro (SlL eu8 A1 c1 s_p0)] (Val (.bool r)):=by
 refine Fun.intro Tryz.func222 rfl rfl rfl fun w R=>?_;refine .ab [0,1] rfl<|.a 2 rfl<|.bd h fun r1 hr1 h=>.cv [0] (mR hr1) zQG rfl<|.bf [4] [] 1 rfl rfl ?_;cases h;exact .rv rfl rfl ⟨rfl,rfl⟩ zw
theorem zQM:Ent Tryz.prog 141:=en Tryz.func141 (by kernel_rfl)
noncomputable def qP (b_p0:(List Int)):Option Bool:=
 bnd (wX b_p0) fun r1=>some (!r1)
theorem dU {b_p0 A1 c1 r} (h:qP b_p0=some r):
    Fun Tryz.prog 141 [.slice A1 b_p0.length c1] [.ro (SlL eu8 A1 c1 b_p0)] (Val (.bool r)):=by
 refine Fun.intro Tryz.func141 rfl rfl rfl fun w R=>?_;refine .ab [0] rfl<|.a 1 rfl<|.bd h fun r1 hr1 h=>.cv [0] (nE hr1) zQR rfl<|.bf [2] [] 1 rfl rfl ?_;cases h;exact .rv rfl rfl ⟨rfl,rfl⟩ zw
theorem zXI:Ent Tryz.prog 61:=en Tryz.func61 (by kernel_rfl)
noncomputable def rI (b_p0:(List Int)):Option (vZ × Bool):=
 bnd (elt b_p0 0) fun x1=>bnd (elt b_p0 1) fun x2=>bnd (elt b_p0 2) fun x3=>bnd (elt b_p0 3) fun x4=>bnd ((bnd (elt b_p0 4) fun x5=>bif (x5 != 0) then (some true) else (bif decide ((iOr .i64 (iOr .i64 (iOr .i64 (IntKind.wrap .i64 x1) (kY .i64 (IntKind.wrap .i64 x2) 8)) (kY .i64 (IntKind.wrap .i64 x3) 16)) (kY .i64 (IntKind.wrap .i64 x4) 24))<1) then (some true) else (some (decide ((iOr .i64 (iOr .i64 (iOr .i64 (IntKind.wrap .i64 x1) (kY .i64 (IntKind.wrap .i64 x2) 8)) (kY .i64 (IntKind.wrap .i64 x3) 16)) (kY .i64 (IntKind.wrap .i64 x4) 24))>2147483648)))):Option Bool)) fun o1=>bif o1 then (some ((⟨0,none,0,false⟩:vZ),false)) else (bnd (yG (τ:=vZ) (fun (s1:vZ)=>bnd (sub b_p0 s1.tail (b_p0.length:Int)) fun l1=>bnd (qO l1) fun r1=>bif !r1.2.2 then (some (.done s1)) else (bnd (wO s1.all r1.1) fun r2=>bif decide ((((r2.getD []).length:Nat):Int)>32) then (some (.done s1)) else (some (.next (⟨s1.generation,r2,IntKind.wrap .i64 (s1.tail+r1.2.1),s1.clean⟩:vZ))))) (⟨iOr .i64 (iOr .i64 (iOr .i64 (IntKind.wrap .i64 x1) (kY .i64 (IntKind.wrap .i64 x2) 8)) (kY .i64 (IntKind.wrap .i64 x3) 16)) (kY .i64 (IntKind.wrap .i64 x4) 24),(some []),5,false⟩:vZ)) fun o2=>bnd (sub b_p0 o2.tail (b_p0.length:Int)) fun l2=>bnd (qP l2) fun r3=>some ((⟨o2.generation,o2.all,o2.tail,r3⟩:vZ),true))
theorem zEn {b_p0 A1 c1 r} (h:rI b_p0=some r):
    Fun Tryz.prog 61 [.slice A1 b_p0.length c1] [.ro (SlL eu8 A1 c1 b_p0)] (fun v F=>∃ M1,v= .tuple #[.agg (aP r.1 M1).toArray, .bool r.2]∧F= [.res (yO (yF .u8) (cod eu8) M1 r.1.all)]):=by
 refine Fun.intro Tryz.func61 rfl rfl rfl fun w R=>?_;refine .seq<|.region<|.alloc rfl rfl fun g1=>.b [0,2] rfl<|.seq<|.regionF mixed (by kernel_rfl)<|.p rfl rfl<|.bd h fun x1 hx1 h=>.ix1 hx1 1 rfl fun b1 ob1=>.ld ob1 0 0 rfl<|.n 2 rfl<|.bd h fun x2 hx2 h=>.ix1 hx2 2 rfl fun b2 ob2=>.ld ob2 0 0 rfl<|.n 4 rfl<|.bd h fun x3 hx3 h=>.ix1 hx3 3 rfl fun b3 ob3=>.ld ob3 0 0 rfl<|.n 4 rfl<|.bd h fun x4 hx4 h=>.ix1 hx4 4 rfl fun b4 ob4=>.ld ob4 0 0 rfl<|.beq rfl<|.pf [0,2,4] [] 4 rfl rfl<|.seq<|.seq<|.bd h fun o1 hj1 h=>.cu 0 [0,2,4, .s 43 (.bool o1)] [] rfl rfl ?_ ?_
 ·refine .region<|.p rfl rfl<|.bd hj1 fun x5 hx5 hj1=>.ix1 hx5 1 rfl fun b5 ob5=>.ld ob5 0 0 rfl<|.n 2 rfl<|.gs 36 hj1 rfl (fun hj1=>?_) (fun hj1=>?_)
  ·cases hj1;exact .be rfl<|.hU rfl (zl [] 1 rfl)
  refine .n 4 rfl<|.gs 40 hj1 rfl (fun hj1=>?_) (fun hj1=>?_)
  ·cases hj1;exact .be rfl<|.hU rfl (zl [] 1 rfl)
  cases hj1;exact .be rfl<|.hU rfl (zl [] 1 rfl)
 refine .cb h rfl (fun h=>?_) (fun h=>?_)
 ·refine .a 1 rfl<|.sb 0 0 rfl<|.bf [2,3] [0] 1 rfl rfl<|.asrt (fun _ w=>w.nilV (yF .u8) (cod eu8)) ?_;cases h;exact .rt rfl Tryz.results61 (.cell rfl (.tail _ (.head _)) rfl (.tmp rfl .nil)) rfl ⟨none,rfl,rfl⟩ (zl [0] 1 rfl)
 refine .sk<|.pr [0,2,4] rfl<|.a 1 rfl<|.makeMapV (K:=(yF .u8)) (E:=(cod eu8)) rfl fun g2=>.p rfl rfl<|.alloc rfl rfl fun g3=>.sb 0 0 rfl<|.b [0,2,5] rfl<|.seq<|.bd h fun o2 hl1 h=>.cutK 2 (fun (e3:Option Nat)=>[0,2,5]) (fun e3=>[.res (yO (yF .u8) (cod eu8) e3 o2.all), .res (Box g3 138 (aP o2 e3))]) rfl rfl ?_ ?_
 ·refine .block<|.loopQ hl1 2 (fun (s1:vZ) (e2:Option Nat)=>[0,2,5]) (fun s1 e2=>[.res (yO (yF .u8) (cod eu8) e2 s1.all), .res (Box g3 138 (aP s1 e2))]) rfl rfl (some g2) (zb rfl) (zl [1] 0 rfl) ?_;rintro s1 M1 st1 hm1 hd1 h1;refine .block<|.a 2 rfl<|.lb 2 1 rfl<|.bd h1 fun l1 hl1 h1=>.sub (E:=(cod eu8)) rfl rfl (zm 3 rfl) rfl rfl rfl rfl rfl rfl rfl hl1 fun A2 c2=>.bd h1 fun r1 hr1 h1=>.cr 6 [0] [] 0 (zDg hr1) zWe rfl fun A3 c3=>.bf [0,2,5,6,7,8] [0] 1 rfl rfl<|.seq<|.ab [0,2,5,6,7,58] rfl<|.cb h1 rfl (fun h1=>?_) (fun h1=>?_)
  ·refine .xq rfl ?_;cases h1;cases hd1 _ rfl
   exact .thenN<|.hE M1 rfl (zl [] 1 rfl)
  refine .sk<|.pr [0,2,5,6,7] rfl<|.a 1 rfl<|.lb 1 2 rfl<|.p rfl rfl<|.asrt (fun _ w=>w.meltC)<|.bd h1 fun r2 hr2 h1=>.call (mG hr2) zSo rfl rfl rfl (zd [1] [1] 0 rfl) ?_;rintro _ _ ⟨M3,rfl,rfl⟩;refine .nm 6 rfl<|.bf [0,2,5,7,9] [0,0] 1 rfl rfl<|.seq<|.a 1 rfl<|.mapLenV (K:=(yF .u8)) (E:=(cod eu8)) rfl rfl (.tail _ (.head _)) rfl rfl rfl<|.b [0,2,5,7,9,65] rfl<|.cb h1 rfl (fun h1=>?_) (fun h1=>?_)
  ·refine .xq rfl ?_;cases h1;cases hd1 _ rfl
   exact .thenN<|.hE M1 rfl (zl [0] 1 rfl)
  refine .sk<|.pr [0,2,5,7,9] rfl<|.region<|.n 2 rfl<|.lb 2 2 rfl<|.n 3 rfl<|.sb 1 2 rfl<|.p rfl rfl<|.sb 2 0 rfl<|.done<|.blkN ?_;cases h1;exact .thenN<|.ag M3 hm1 rfl (zl [2,0] 1 rfl)
 rintro M2;refine .a 2 rfl<|.lb 2 1 rfl<|.bd h fun l2 hl2 h=>.sub (E:=(cod eu8)) rfl rfl (zm 3 rfl) rfl rfl rfl rfl rfl rfl rfl hl2 fun A4 c4=>.bd h fun r3 hr3 h=>.cv [0] (dU hr3) zQM rfl<|.p rfl rfl<|.sb 3 2 rfl<|.bf [2,5] [0,1,1] 2 rfl rfl<|.seq<|.region<|.lb 0 0 rfl<|.sb 0 2 rfl<|.bf [2,3] [0] 1 rfl rfl ?_;cases h;exact .rt rfl Tryz.results61 (.cell rfl (.head _) rfl (.tmp rfl .nil)) rfl ⟨M2,rfl,rfl⟩ (zl [] 1 rfl)
theorem zSn:Ent Tryz.prog 15:=en Tryz.func15 (by kernel_rfl)
noncomputable def xI (d_p0:zA) (first:Int):Option (zA × (Option zC) × Int):=
 bnd ((bif decide (first<0) then (some true) else (bnd (sA d_p0) fun r1=>some (decide (first>(IntKind.wrap .i64 (r1 - 2))))):Option Bool)) fun o1=>bif o1 then (some (d_p0,none,2)) else (bnd (yI d_p0) fun r2=>bif decide (r2<1024) then (some (d_p0,none,3)) else (bnd (yG (τ:=(zA × (Option zC) × Int) ⊕ (zC × zA)) (fun (s1:zC × zA × Int)=>bif decide (s1.2.2<2) then (bnd (yI s1.2.1) fun r3=>bnd (yI s1.2.1) fun r4=>bnd (uK s1.2.1 (IntKind.wrap .i64 ((IntKind.wrap .i64 (first+s1.2.2))*r3)) r4) fun r5=>bif (r5.2.2 != 0) then (some (.done (.inl (r5.1,none,r5.2.2)))) else (bnd (rI r5.2.1) fun r6=>bnd ((bif r6.2 then (some (decide (r6.1.generation>s1.1.generation))) else (some false):Option Bool)) fun o4=>bif o4 then (some (.next ((⟨s1.1.d,s1.1.first,s1.2.2,r6.1.generation,r6.1.all,r6.1.tail,r6.1.clean,s1.1.ended⟩:zC),r5.1,IntKind.wrap .i64 (s1.2.2+1)))) else (some (.next (s1.1,r5.1,IntKind.wrap .i64 (s1.2.2+1)))))) else (some (.done (.inr (s1.1,s1.2.1))))) ((⟨true,first,(-1),0,(some []),0,false,false⟩:zC),d_p0,0)) fun o2=>wT o2 fun o3=>some (o3.2,(some o3.1),0)))
theorem iP {d_p0 first A1 c1 A2 c2 gb1 r} (h:xI d_p0 first=some r):
    Fun Tryz.prog 15 [.pointer (some ⟨gb1,0,none⟩), .int .i64 first] [.res (Box gb1 131 (zG d_p0 A1 c1 A2 c2)), .res (zM eu8 5 A1 c1 d_p0.bytes), .res (zM yH 3 A2 c2 d_p0.wear)] (zMW r.2.1 (fun v F=>∃ A3 c3 A4 c4,v= .tuple #[.pointer none, .int .i64 r.2.2]∧F= [.res (Box gb1 131 (zG r.1 A3 c3 A4 c4)), .res (zM eu8 5 A3 c3 r.1.bytes), .res (zM yH 3 A4 c4 r.1.wear)]) (fun q_ v F=>∃ g1 A3 c3 A4 c4 M1,v= .tuple #[.pointer (some ⟨g1,0,none⟩), .int .i64 r.2.2]∧F= [.res (Box gb1 131 (zG r.1 A3 c3 A4 c4)), .res (zM eu8 5 A3 c3 r.1.bytes), .res (zM yH 3 A4 c4 r.1.wear), .res (Box g1 135 (zO q_ gb1 M1)), .res (yO (yF .u8) (cod eu8) M1 q_.all)])):=by
 refine Fun.intro Tryz.func15 rfl rfl rfl fun w R=>?_;refine .ab [0,1] rfl<|.seq<|.block<|.seq<|.bd h fun o1 hj1 h=>.cu 0 [0,1, .s 12 (.bool o1)] [] rfl rfl ?_ ?_
 ·refine .region<|.n 3 rfl<|.gs 15 hj1 rfl (fun hj1=>?_) (fun hj1=>?_)
  ·cases hj1;exact .be rfl<|.hU rfl zw
  refine .n 2 rfl<|.gOn rfl rfl<|.bd hj1 fun r1 hr1 hj1=>.cq 3 [] [] 0 (cU hr1) zXz rfl ?_;cases hj1;exact .be rfl<|.hU rfl zw
 refine .cb h rfl (fun h=>?_) (fun h=>?_)
 ·refine .ab [4,5] rfl ?_;cases h;exact .rv rfl rfl (mB ⟨A1,c1,A2,c2,rfl,rfl⟩) zw
 refine .a 1 rfl<|.bd h fun r2 hr2 h=>.cq 3 [] [] 0 (vE hr2) zGb rfl<|.b [0,1,22] rfl<|.cb h rfl (fun h=>?_) (fun h=>?_)
 ·refine .ab [4,5] rfl ?_;cases h;exact .rv rfl rfl (mB ⟨A1,c1,A2,c2,rfl,rfl⟩) zw
 refine .skip<|.blkN<|.thenN<|.pr [0,1] rfl<|.a 2 rfl<|.makeMapV (K:=(yF .u8)) (E:=(cod eu8)) rfl fun g1=>.p rfl rfl<|.box rfl rfl fun g2=>.b [0,1,6] rfl<|.seq<|.ae rfl<|.bd h fun o2 hl1 h=>.cutJ 5 (fun (o3:zC × zA) (e3:Option Nat × Option Addr × Nat × Option Addr × Nat)=>[6]) (fun o3 e3=>[.res (zM yH 3 e3.2.2.2.1 e3.2.2.2.2 o3.2.wear), .res (zM eu8 5 e3.2.1 e3.2.2.1 o3.2.bytes), .res (yO (yF .u8) (cod eu8) e3.1 o3.1.all), .res (Box g2 135 (zO o3.1 gb1 e3.1)), .res (Box gb1 131 (zG o3.2 e3.2.1 e3.2.2.1 e3.2.2.2.1 e3.2.2.2.2))]) rfl rfl (fun o3=>o2= .inr o3) ?_ ?_
 ·refine .block<|.loopQ hl1 5 (fun (s1:zC × zA × Int) (e2:Option Nat × Option Addr × Nat × Option Addr × Nat)=>[0,1,6, .s 31 (.int .i64 s1.2.2)]) (fun s1 e2=>[.res (zM yH 3 e2.2.2.2.1 e2.2.2.2.2 s1.2.1.wear), .res (zM eu8 5 e2.2.1 e2.2.2.1 s1.2.1.bytes), .res (yO (yF .u8) (cod eu8) e2.1 s1.1.all), .res (Box g2 135 (zO s1.1 gb1 e2.1)), .res (Box gb1 131 (zG s1.2.1 e2.2.1 e2.2.2.1 e2.2.2.2.1 e2.2.2.2.2))]) rfl rfl ((some g1),A1,c1,A2,c2) (zb rfl) (zl [4,3,1] 0 rfl) ?_;rintro s1 ⟨M1,A3,c3,A4,c4⟩ st1 hm1 hd1 h1;refine .ae rfl<|.seq<|.cb h1 rfl (fun h1=>?_) (fun h1=>?_)
  ·refine .sk<|.pr [0,1,6,31] rfl<|.seq<|.block<|.ab [0,1,6,7,31] rfl<|.a 5 rfl<|.bd h1 fun r3 hr3 h1=>.cq 5 [] [4,1] 0 (vE hr3) zGb rfl<|.n 2 rfl<|.bd h1 fun r4 hr4 h1=>.cq 5 [] [] 0 (vE hr4) zGb rfl<|.bd h1 fun r5 hr5 h1=>.call (iY hr5) zUK rfl rfl rfl (fun _ w=>w) ?_;rintro _ _ ⟨A7,c7,A8,c8,A9,c9,rfl,rfl⟩;refine .nm 6 rfl<|.b [0,1,6,7,8,9,31] rfl<|.seq<|.ab [0,1,6,7,8,9,31,48] rfl<|.cb h1 rfl (fun h1=>?_) (fun h1=>?_)
   ·refine .abf [4,5] [0,0,0] 3 rfl rfl ?_;cases h1;cases hd1 _ rfl
    have h:some _=some _:=h;cases h;exact .rv rfl rfl (mB ⟨A7,c7,A8,c8,rfl,rfl⟩) zw
   refine .sk<|.pr [0,1,6,7,8,31] rfl<|.a 1 rfl<|.asrt (fun _ w=>(w.sl [3] 0 rfl).meltL)<|.bd h1 fun r6 hr6 h1=>.call (zEn hr6) zXI rfl rfl rfl (zd [0] [] 0 rfl) ?_;rintro _ _ ⟨M3,rfl,rfl⟩;refine .nm 7 rfl<|.n 3 rfl<|.alloc rfl rfl fun g3=>.sb 0 0 rfl<|.bf [0,1,6,7,10,11,31] [0,0] 1 rfl rfl<|.seq<|.bd h1 fun o4 hj2 h1=>.cu 0 [0,1,6,7,10,31, .s 64 (.bool o4)] [] rfl rfl ?_ ?_
   ·refine .regionF mixed (by kernel_rfl)<|.n 2 rfl<|.gs 56 hj2 rfl (fun hj2=>?_) (fun hj2=>?_)
    ·refine .n 1 rfl<|.gOn rfl rfl<|.lb 0 0 rfl<|.n 3 rfl<|.gOn rfl rfl<|.lb 3 6 rfl ?_;cases hj2;exact .beq rfl<|.hU rfl zw
    cases hj2;exact .beq rfl<|.hU rfl zw
   refine .cb h1 rfl (fun h1=>?_) (fun h1=>?_)
   ·refine .regionX (iN [0,4,8,12,16,20,24,28,32,36,40,44,48,52,56,60,67,68,72,79,80,84,91,92,96,103,104,108,115] .nil) _ mixed (by kernel_rfl) (zl [0,0,0,0,0,0] 1 rfl)<|.yn 7 rfl<|.yl 0 0 rfl<|.yn 1 rfl<|.yl 1 0 rfl<|.yn 1 rfl<|.yl 2 0 rfl<|.yn 1 rfl<|.yl 3 0 rfl<|.yn 2 rfl<|.xef<|.sb 2 6 rfl<|.xk (zl [] 1 rfl)<|.yn 2 rfl<|.xef<|.sb 3 0 rfl<|.xk (zl [] 1 rfl)<|.yn 2 rfl<|.xef<|.sb 4 0 rfl<|.xk (zl [] 1 rfl)<|.yn 2 rfl<|.xef<|.sb 5 0 rfl<|.xk (zl [] 1 rfl)<|.yn 2 rfl<|.xef<|.sb 6 0 rfl<|.xk (zl [] 1 rfl)<|.xdone<|.blkN<|.thenN<|.pf [0,1,6,31] [0,1,1,1,1] 2 rfl rfl<|.region ?_;cases h1;exact .be rfl<|.ag (M3,A7,c7,A8,c8) hm1 rfl (zl [4,3,1] 0 rfl)
   refine .skip<|.blkN<|.thenN<|.pf [0,1,6,31] [] 2 rfl rfl<|.region ?_;cases h1;exact .be rfl<|.ag (M1,A7,c7,A8,c8) hm1 rfl (zl [2,1,1,1] 0 rfl)
  refine .xq rfl ?_;cases h1;cases hd1 _ rfl
  exact .thenN<|.hereI (s1.1,s1.2.1) (M1,A3,c3,A4,c4) rfl (zb rfl) zw
 rintro o3 ⟨M2,A5,c5,A6,c6⟩ ho;subst ho;have h:=unR h;refine .ab [4,5] rfl ?_;cases h;exact .rv rfl rfl (zCd ⟨g2,A5,c5,A6,c6,M2,rfl,rfl⟩) (zl [4,1,0,1] 0 rfl)
theorem zIB:Ent Tryz.prog 166:=en Tryz.func166 (by kernel_rfl)
noncomputable def uF (s_p0:ByteArray):Option Bool:=
 bnd ((bif decide ((s_p0.size:Int)<1) then (some true) else (some (decide ((s_p0.size:Int)>16))):Option Bool)) fun o1=>bif o1 then (some false) else (bnd (yG (τ:=Bool ⊕ Unit) (fun (s1:Int)=>bif decide (s1<(s_p0.size:Int)) then (bnd ((bnd (eltS s_p0 s1) fun y1=>bif decide (y1≥97) then (some (decide (y1≤122))) else (some false):Option Bool)) fun o4=>bnd ((bnd (eltS s_p0 s1) fun y2=>bif decide (y2≥48) then (bif decide (y2≤57) then (some true) else (some (y2==45))) else (some (y2==45)):Option Bool)) fun o5=>bnd ((bif !o4 then (bif (s1==0) then (some true) else (some (!o5))) else (some false):Option Bool)) fun o6=>bif o6 then (some (.done (.inl false))) else (some (.next (IntKind.wrap .i64 (s1+1))))) else (some (.done (.inr ())))) 0) fun o2=>wT o2 fun o3=>some true)
theorem kJ {s_p0 r} (h:uF s_p0=some r):
    Fun Tryz.prog 166 [.string s_p0] [] (Val (.bool r)):=by
 refine Fun.intro Tryz.func166 rfl rfl rfl fun w R=>?_;refine .ab [0] rfl<|.seq<|.seq<|.bd h fun o1 hj1 h=>.cu 0 [0, .s 13 (.bool o1)] [] rfl rfl ?_ ?_
 ·refine .region<|.n 4 rfl<|.gs 9 hj1 rfl (fun hj1=>?_) (fun hj1=>?_)
  ·cases hj1;exact .be rfl<|.hU rfl zw
  cases hj1;exact .be rfl<|.hU rfl zw
 refine .cb h rfl (fun h=>?_) (fun h=>?_)
 ·refine .ab [2] rfl ?_;cases h;exact .rv rfl rfl ⟨rfl,rfl⟩ zw
 refine .sk<|.pr [0] rfl<|.seq<|.ae rfl<|.bd h fun o2 hl1 h=>.cutJ 0 (fun (o3:Unit) (e3:Unit)=>[]) (fun o3 e3=>[]) rfl rfl (fun o3=>o2= .inr o3) ?_ ?_
 ·refine .block<|.loopQ hl1 0 (fun (s1:Int) (e2:Unit)=>[0, .s 3 (.int .i64 s1)]) (fun s1 e2=>[]) rfl rfl () (zb rfl) (fun _ w=>w) ?_;rintro s1 e2 st1 hm1 hd1 h1;refine .seq<|.ab [0,3,17] rfl<|.cb h1 rfl (fun h1=>?_) (fun h1=>?_)
  ·refine .sk<|.pr [0,3] rfl<|.seq<|.block<|.seq<|.bd h1 fun o4 hj2 h1=>.cu 0 [0,3, .s 4 (.bool o4)] [] rfl rfl ?_ ?_
   ·refine .region<|.n 2 rfl<|.bd hj2 fun y1 hy1 hj2=>.eltS rfl rfl rfl rfl rfl hy1<|.n 2 rfl<|.gs 24 hj2 rfl (fun hj2=>?_) (fun hj2=>?_)
    ·refine .n 2 rfl<|.gOn rfl rfl<|.eltS rfl rfl rfl rfl rfl hy1 ?_;cases hj2;exact .be rfl<|.hU rfl zw
    cases hj2;exact .be rfl<|.hU rfl zw
   refine .seq<|.bd h1 fun o5 hj3 h1=>.cu 0 [0,3,4, .s 5 (.bool o5)] [] rfl rfl ?_ ?_
   ·refine .region<|.n 2 rfl<|.bd hj3 fun y2 hy2 hj3=>.eltS rfl rfl rfl rfl rfl hy2<|.n 2 rfl<|.gs 34 hj3 rfl (fun hj3=>?_) (fun hj3=>?_)
    ·refine .n 2 rfl<|.gOn rfl rfl<|.eltS rfl rfl rfl rfl rfl hy2<|.n 3 rfl<|.gs 40 hj3 rfl (fun hj3=>?_) (fun hj3=>?_)
     ·cases hj3;exact .be rfl<|.hU rfl zw
     refine .n 2 rfl<|.gOn rfl rfl<|.eltS rfl rfl rfl rfl rfl hy2 ?_;cases hj3;exact .be rfl<|.hU rfl zw
    refine .n 8 rfl<|.gOn rfl rfl<|.eltS rfl rfl rfl rfl rfl hy2 ?_;cases hj3;exact .be rfl<|.hU rfl zw
   refine .seq<|.bd h1 fun o6 hj4 h1=>.cu 0 [0,3, .s 55 (.bool o6)] [] rfl rfl ?_ ?_
   ·refine .region<|.n 3 rfl<|.gs 48 hj4 rfl (fun hj4=>?_) (fun hj4=>?_)
    ·refine .n 3 rfl<|.gs 51 hj4 rfl (fun hj4=>?_) (fun hj4=>?_)
     ·cases hj4;exact .be rfl<|.hU rfl zw
     cases hj4;exact .be rfl<|.hU rfl zw
    cases hj4;exact .be rfl<|.hU rfl zw
   refine .cb h1 rfl (fun h1=>?_) (fun h1=>?_)
   ·refine .ab [2] rfl ?_;cases h1;cases hd1 _ rfl
    have h:some _=some _:=h;cases h;exact .rv rfl rfl ⟨rfl,rfl⟩ zw
   refine .skip<|.blkN<|.thenN<|.pr [0,3] rfl<|.region ?_;cases h1;exact .be rfl<|.ag () hm1 rfl zw
  refine .xq rfl ?_;cases h1;cases hd1 _ rfl
  exact .thenN<|.hereI () () rfl trivial zw
 rintro o3 e3 ho;subst ho;have h:=unR h;refine .ae rfl ?_;cases h;exact .rv rfl rfl ⟨rfl,rfl⟩ zw
theorem zMV:Ent Tryz.prog 232:=en Tryz.func232 (by kernel_rfl)
noncomputable def vI (v_p0:zK):Option (zGP Int):=
 some (⟨v_p0.Major,v_p0.Minor,v_p0.Patch⟩:(zGP Int))
theorem kE {v_p0 r} (h:vI v_p0=some r):
    Fun Tryz.prog 232 [.agg #[.int .i64 v_p0.Major, .int .i64 v_p0.Minor, .int .i64 v_p0.Patch]] [] (Val (.agg #[.int .i64 r.e0, .int .i64 r.e1, .int .i64 r.e2])):=by
 unfold vI at h
 refine Fun.intro Tryz.func232 rfl rfl rfl fun w R=>?_;refine .seq<|.region<|.box rfl rfl fun g1=>.alloc rfl rfl fun g2=>.b [1,2] rfl<|.a 1 rfl<|.lb 0 1 rfl<|.p rfl rfl<|.lb 1 1 rfl<|.p rfl rfl<|.lb 2 1 rfl<|.p rfl rfl<|.sb 0 0 rfl<|.bf [2] [0] 1 rfl rfl ?_;cases h;exact .rt rfl Tryz.results232 (.cell rfl (.head _) rfl .nil) rfl ⟨rfl,rfl⟩ (zl [] 1 rfl)
theorem zJA:Ent Tryz.prog 167:=en Tryz.func167 (by kernel_rfl)
noncomputable def vN (v_p0:zK):Option Bool:=
 bnd (vI v_p0) fun r1=>bnd ((bif decide (r1.e0<0) then (some true) else (some (decide (r1.e0>999))):Option Bool)) fun o1=>bif o1 then (some false) else (bnd ((bif decide (r1.e1<0) then (some true) else (some (decide (r1.e1>999))):Option Bool)) fun o2=>bif o2 then (some false) else (bnd ((bif decide (r1.e2<0) then (some true) else (some (decide (r1.e2>999))):Option Bool)) fun o3=>bif o3 then (some false) else (some true)))
theorem mL {v_p0 r} (h:vN v_p0=some r):
    Fun Tryz.prog 167 [.agg #[.int .i64 v_p0.Major, .int .i64 v_p0.Minor, .int .i64 v_p0.Patch]] [] (Val (.bool r)):=by
 refine Fun.intro Tryz.func167 rfl rfl rfl fun w R=>?_;refine .seq<|.region<|.box rfl rfl fun g1=>.b [1] rfl<|.seq<|.seq<|.region<|.lb 0 0 rfl<|.bd h fun r1 hr1 h=>.cv [] (kE hr1) zMV rfl<|.bf [6,7] [] 1 rfl rfl<|.block<|.rounds 9<|.round<|.ae rfl<|.seq<|.condT rfl<|.sk<|.pr [6,7] rfl<|.seq<|.block<|.ab [4,6,7] rfl<|.seq<|.bd h fun o1 hj1 h=>.cu 0 [6,7, .s 15 (.bool o1)] [] rfl rfl ?_ ?_
 ·refine .region<|.n 3 rfl<|.gs 12 hj1 rfl (fun hj1=>?_) (fun hj1=>?_)
  ·cases hj1;exact .be rfl<|.hU rfl zw
  cases hj1;exact .be rfl<|.hU rfl zw
 refine .cb h rfl (fun h=>?_) (fun h=>?_)
 ·refine .ab [2] rfl ?_;cases h;exact .rv rfl rfl ⟨rfl,rfl⟩ zw
 refine .skip<|.blkN<|.thenN<|.pr [6,7] rfl<|.region<|.be rfl<|.round<|.pr [6,7] rfl<|.ae rfl<|.seq<|.condT rfl<|.sk<|.pr [6,7] rfl<|.seq<|.block<|.ab [4,6,7] rfl<|.seq<|.bd h fun o2 hj2 h=>.cu 0 [6,7, .s 15 (.bool o2)] [] rfl rfl ?_ ?_
 ·refine .region<|.n 3 rfl<|.gs 12 hj2 rfl (fun hj2=>?_) (fun hj2=>?_)
  ·cases hj2;exact .be rfl<|.hU rfl zw
  cases hj2;exact .be rfl<|.hU rfl zw
 refine .cb h rfl (fun h=>?_) (fun h=>?_)
 ·refine .ab [2] rfl ?_;cases h;exact .rv rfl rfl ⟨rfl,rfl⟩ zw
 refine .skip<|.blkN<|.thenN<|.pr [6,7] rfl<|.region<|.be rfl<|.round<|.pr [6,7] rfl<|.ae rfl<|.seq<|.condT rfl<|.sk<|.pr [6,7] rfl<|.seq<|.block<|.ab [4,6,7] rfl<|.seq<|.bd h fun o3 hj3 h=>.cu 0 [6,7, .s 15 (.bool o3)] [] rfl rfl ?_ ?_
 ·refine .region<|.n 3 rfl<|.gs 12 hj3 rfl (fun hj3=>?_) (fun hj3=>?_)
  ·cases hj3;exact .be rfl<|.hU rfl zw
  cases hj3;exact .be rfl<|.hU rfl zw
 refine .cb h rfl (fun h=>?_) (fun h=>?_)
 ·refine .ab [2] rfl ?_;cases h;exact .rv rfl rfl ⟨rfl,rfl⟩ zw
 refine .skip<|.blkN<|.thenN<|.pr [6,7] rfl<|.region<|.be rfl<|.round<|.pr [6,7] rfl<|.ae rfl<|.seq<|.condF rfl<|.xq rfl<|.thenN<|.pr [] rfl<|.ae rfl ?_;cases h;exact .rv rfl rfl ⟨rfl,rfl⟩ zw
theorem zKY:Ent Tryz.prog 88:=en Tryz.func88 (by kernel_rfl)
noncomputable def tC (i_p0:zH):Option Bool:=
 bnd ((bnd (uF i_p0.Name) fun r1=>bif r1 then (bnd (vN i_p0.Version) fun r2=>bif r2 then (bif decide ((i_p0.Data.length:Int)≥1) then (some (decide ((i_p0.Data.length:Int)≤512))) else (some false)) else (some false)) else (some false):Option Bool)) fun o1=>some o1
theorem oW {i_p0 A1 c1 r} (h:tC i_p0=some r):
    Fun Tryz.prog 88 [.agg (xJ i_p0 A1 c1).toArray] [.ro (SlL eu8 A1 c1 i_p0.Data)] (Val (.bool r)):=by
 refine Fun.intro Tryz.func88 rfl rfl rfl fun w R=>?_;refine .seq<|.region<|.box rfl rfl fun g1=>.b [1] rfl<|.seq<|.bd h fun o1 hj1 h=>.cu 2 [.s 2 (.bool o1)] [] rfl rfl ?_ ?_
 ·refine .region<|.p rfl rfl<|.lb 0 0 rfl<|.bd hj1 fun r1 hr1 hj1=>.cv [] (kJ hr1) zIB rfl<|.p rfl rfl<|.gs 6 hj1 rfl (fun hj1=>?_) (fun hj1=>?_)
  ·refine .n 1 rfl<|.gOn rfl rfl<|.lb 1 0 rfl<|.gOn rfl rfl<|.bd hj1 fun r2 hr2 hj1=>.cv [] (mL hr2) zJA rfl<|.n 2 rfl<|.gs 11 hj1 rfl (fun hj1=>?_) (fun hj1=>?_)
   ·refine .n 1 rfl<|.gOn rfl rfl<|.lb 4 0 rfl<|.n 4 rfl<|.gs 17 hj1 rfl (fun hj1=>?_) (fun hj1=>?_)
    ·refine .n 1 rfl<|.gOn rfl rfl<|.lb 4 0 rfl ?_;cases hj1;exact .be rfl<|.hU rfl (zl [] 2 rfl)
    cases hj1;exact .be rfl<|.hU rfl (zl [] 2 rfl)
   cases hj1;exact .be rfl<|.hU rfl (zl [] 2 rfl)
  cases hj1;exact .be rfl<|.hU rfl (zl [] 2 rfl)
 cases h;exact .rv rfl rfl ⟨rfl,rfl⟩ zw
theorem zCZ:Ent Tryz.prog 130:=en Tryz.func130 (by kernel_rfl)
noncomputable def pJ (i_p0:zH):Option zH:=
 bnd (zP i_p0.Data) fun r1=>some (⟨i_p0.Name,i_p0.Version,r1⟩:zH)
theorem gH {i_p0 A1 c1 r} (h:pJ i_p0=some r):
    Fun Tryz.prog 130 [.agg (xJ i_p0 A1 c1).toArray] [.ro (SlL eu8 A1 c1 i_p0.Data)] (fun v F=>∃ A2 c2,v= .agg (xJ r A2 c2).toArray∧F= [.ro (SlL eu8 A2 c2 r.Data)]):=by
 refine Fun.intro Tryz.func130 rfl rfl rfl fun w R=>?_;refine .seq<|.region<|.box rfl rfl fun g1=>.alloc rfl rfl fun g2=>.b [1,2] rfl<|.a 1 rfl<|.lb 4 1 rfl<|.bd h fun r1 hr1 h=>.cr 4 [2] [] 0 (yM hr1) bO rfl fun A2 c2=>.p rfl rfl<|.sb 4 2 rfl<|.bf [1,2] [0,0,0] 1 rfl rfl<|.seq<|.region<|.lb 0 0 rfl<|.sb 0 2 rfl<|.bf [2] [0] 1 rfl rfl<|.asrt (fun _ w=>(w.sl [1] 0 rfl).meltL) ?_;cases h;exact .rt rfl Tryz.results130 (.cell rfl (.tail _ (.head _)) rfl .nil) rfl ⟨A2,c2,rfl,rfl⟩ (zk 1 2 [0] [] 0 rfl)
theorem zNs:Ent Tryz.prog 133:=en Tryz.func133 (by kernel_rfl)
noncomputable def rV (b_p0:(List Int)) (s_p1:ByteArray):Option (List Int):=
 bnd (app 1 b_p0 [IntKind.wrap .u8 (s_p1.size:Int)]) fun l1=>bnd (app 1 l1 (nK s_p1)) fun l2=>some l2
theorem eP {b_p0 s_p1 A1 c1 r} (h:rV b_p0 s_p1=some r):
    Fun Tryz.prog 133 [.slice A1 b_p0.length c1, .string s_p1] [.res (zM eu8 5 A1 c1 b_p0)] (fun v F=>∃ A2 c2,v= .slice A2 r.length c2∧F= [.res (zM eu8 5 A2 c2 r)]):=by
 refine Fun.intro Tryz.func133 rfl rfl rfl fun w R=>?_;refine .ab [0,1] rfl<|.a 4 rfl<|.bS rfl fun g1=>.bd h fun l1 hl1 h=>.app (E:=eu8) hl1 rfl rfl rfl (.s .z) rfl rfl rfl rfl rfl rfl rfl rfl (eO (.head _) rfl rfl) rfl rfl fun A2 c2=>.p rfl rfl<|.bd h fun l2 hl2 h=>.app (E:=eu8) hl2 rfl rfl rfl .z rfl rfl rfl rfl rfl rfl rfl (by simp [nK,ByteArray.toList_eq]) (zXr s_p1) rfl rfl fun A3 c3=>.bf [4] [0] 1 rfl rfl ?_;cases h;exact .rv rfl rfl ⟨A3,c3,rfl,rfl⟩ zw
theorem zID:Ent Tryz.prog 168:=en Tryz.func168 (by kernel_rfl)
noncomputable def tE (b_p0:(List Int)) (n_p1:Int):Option (List Int):=
 bnd (app 1 b_p0 [IntKind.wrap .u8 (uD .i64 n_p1 8),IntKind.wrap .u8 n_p1]) fun l1=>some l1
theorem lQ {b_p0 n_p1 A1 c1 r} (h:tE b_p0 n_p1=some r):
    Fun Tryz.prog 168 [.slice A1 b_p0.length c1, .int .i64 n_p1] [.res (zM eu8 5 A1 c1 b_p0)] (fun v F=>∃ A2 c2,v= .slice A2 r.length c2∧F= [.res (zM eu8 5 A2 c2 r)]):=by
 refine Fun.intro Tryz.func168 rfl rfl rfl fun w R=>?_;refine .ab [0,1] rfl<|.a 6 rfl<|.bS rfl fun g1=>.bd h fun l1 hl1 h=>.app (E:=eu8) hl1 rfl rfl rfl (.s .z) rfl rfl rfl rfl rfl rfl rfl rfl (eO (.head _) rfl rfl) rfl rfl fun A2 c2=>.bf [4] [0] 1 rfl rfl ?_;cases h;exact .rv rfl rfl ⟨A2,c2,rfl,rfl⟩ zw
theorem zMk:Ent Tryz.prog 132:=en Tryz.func132 (by kernel_rfl)
noncomputable def vW (b_p0:(List Int)) (v_p1:zK):Option (List Int):=
 bnd (tE b_p0 v_p1.Major) fun r1=>bnd (tE r1 v_p1.Minor) fun r2=>bnd (tE r2 v_p1.Patch) fun r3=>some r3
theorem jC {b_p0 v_p1 A1 c1 r} (h:vW b_p0 v_p1=some r):
    Fun Tryz.prog 132 [.slice A1 b_p0.length c1, .agg #[.int .i64 v_p1.Major, .int .i64 v_p1.Minor, .int .i64 v_p1.Patch]] [.res (zM eu8 5 A1 c1 b_p0)] (fun v F=>∃ A2 c2,v= .slice A2 r.length c2∧F= [.res (zM eu8 5 A2 c2 r)]):=by
 unfold vW at h
 refine Fun.intro Tryz.func132 rfl rfl rfl fun w R=>?_;refine .seq<|.region<|.box rfl rfl fun g1=>.b [0,3] rfl<|.seq<|.regionX (iN [0,4,9,16,20,28,32,15,27,39,40] .nil) _ mixed (by kernel_rfl) (zl [0] 1 rfl)<|.yn 2 rfl<|.yx 0 0 rfl<|.yn 1 rfl<|.yl 1 0 rfl<|.yn 1 rfl<|.yl 2 0 rfl<|.xef<|.bd h fun r1 hr1 h=>.cr 2 [] [1] 0 (lQ hr1) zID rfl fun A2 c2=>.xk (zl [] 1 rfl)<|.xef<|.bd h fun r2 hr2 h=>.cr 2 [] [] 0 (lQ hr2) zID rfl fun A3 c3=>.xk (zl [] 1 rfl)<|.xef<|.bd h fun r3 hr3 h=>.cr 2 [] [] 0 (lQ hr3) zID rfl fun A4 c4=>.xk (zl [] 1 rfl)<|.yn 1 rfl<|.xdone<|.thenN<|.pf [4] [0] 1 rfl rfl ?_;cases h;exact .rv rfl rfl ⟨A4,c4,rfl,rfl⟩ zw
theorem zUV:Ent Tryz.prog 89:=en Tryz.func89 (by kernel_rfl)
noncomputable def qI (i_p0:zH):Option (List Int):=
 bnd (rV ([]) i_p0.Name) fun r1=>bnd (vW r1 i_p0.Version) fun r2=>bnd (tE r2 (i_p0.Data.length:Int)) fun r3=>bnd (app 1 r3 i_p0.Data) fun l1=>some l1
theorem aZ {i_p0 A1 c1 r} (h:qI i_p0=some r):
    Fun Tryz.prog 89 [.agg (xJ i_p0 A1 c1).toArray] [.ro (SlL eu8 A1 c1 i_p0.Data)] (fun v F=>∃ A2 c2,v= .slice A2 r.length c2∧F= [.res (zM eu8 5 A2 c2 r)]):=by
 unfold qI at h
 refine Fun.intro Tryz.func89 rfl rfl rfl fun w R=>?_;refine .seq<|.region<|.box rfl rfl fun g1=>.b [1] rfl<|.seq<|.regionX (iN [0,5,12,16,24,28,32,40,44,11,23,39,51,52] .nil) _ mixed (by kernel_rfl) zw<|.yn 1 rfl<|.yx 0 0 rfl<|.yn 1 rfl<|.yl 1 0 rfl<|.yn 1 rfl<|.yl 4 0 rfl<|.yn 2 rfl<|.yl 4 0 rfl<|.xef<|.asrt (fun _ w=>w.nilL eu8 5)<|.bd h fun r1 hr1 h=>.cr 3 [] [] 0 (eP hr1) zNs rfl fun A2 c2=>.xk (zl [] 1 rfl)<|.xef<|.bd h fun r2 hr2 h=>.cr 3 [] [] 0 (jC hr2) zMk rfl fun A3 c3=>.xk (zl [] 1 rfl)<|.xef<|.bd h fun r3 hr3 h=>.cr 3 [] [] 0 (lQ hr3) zID rfl fun A4 c4=>.xk (zl [] 1 rfl)<|.xef<|.bd h fun l1 hl1 h=>.app (E:=eu8) hl1 rfl rfl rfl .z rfl rfl rfl rfl rfl rfl rfl rfl (fB (.tail _ (.tail _ (.head _)))) rfl rfl fun A5 c5=>.xk (zl [] 1 rfl)<|.yn 1 rfl<|.xdone<|.thenN<|.pf [2] [0] 2 rfl rfl ?_;cases h;exact .rv rfl rfl ⟨A5,c5,rfl,rfl⟩ zw
theorem zOm:Ent Tryz.prog 71:=en Tryz.func71 (by kernel_rfl)
noncomputable def wE (b_p0:(List Int)):Option Int:=
 bnd (yG (τ:=Int) (fun (s1:Int × Int)=>bif decide (s1.2<(b_p0.length:Int)) then (bnd (elt b_p0 s1.2) fun x1=>bnd (yG (τ:=Int) (fun (s2:Int × Int)=>bif decide (s2.2<8) then (some (.next (fN .u32 (uD .u32 s2.1 1) (IntKind.wrap .u32 ((rK .u32 s2.1 1)*3988292384)),IntKind.wrap .i64 (s2.2+1)))) else (some (.done s2.1))) (fN .u32 s1.1 (IntKind.wrap .u32 x1),0)) fun o2=>some (.next (o2,IntKind.wrap .i64 (s1.2+1)))) else (some (.done s1.1))) (4294967295,0)) fun o1=>some (fN .u32 (if IntKind.signed .u32 then -1 else IntKind.max .u32) o1)
theorem nB {b_p0 A1 c1 r} (h:wE b_p0=some r):
    Fun Tryz.prog 71 [.slice A1 b_p0.length c1] [.ro (SlL eu8 A1 c1 b_p0)] (Val (.int .u32 r)):=by
 refine Fun.intro Tryz.func71 rfl rfl rfl fun w R=>?_;refine .ab [0] rfl<|.ae rfl<|.seq<|.ab [3,7,8,9] rfl<|.bd h fun o1 hl1 h=>.cu 1 [.s 3 (.int .u32 o1)] [] rfl rfl ?_ ?_
 ·refine .block<|.loopQ hl1 0 (fun (s1:Int × Int) (e1:Unit)=>[.s 3 (.int .u32 s1.1),7,8, .s 9 (.int .i64 s1.2)]) (fun s1 e1=>[]) rfl rfl () (zb rfl) (fun _ w=>w) ?_;rintro s1 e1 st1 hm1 hd1 h1;refine .ae rfl<|.seq<|.cb h1 rfl (fun h1=>?_) (fun h1=>?_)
  ·refine .sk<|.pr [3,7,8,9] rfl<|.seq<|.block<|.seq<|.region<|.bd h1 fun x1 hx1 h1=>.ix1 hx1 0 rfl fun b1 ob1=>.ld ob1 0 0 rfl<|.bf [3,5,7,8,9] [] 1 rfl rfl<|.ab [3,7,8,9] rfl<|.ae rfl<|.bd h1 fun o2 hl2 h1=>.selfThen<|.cu 0 [.s 3 (.int .u32 o2),7,8,9] [] rfl rfl ?_ ?_
   ·refine .block<|.loopQ hl2 0 (fun (s2:Int × Int) (e3:Unit)=>[.s 3 (.int .u32 s2.1),7,8,9, .s 17 (.int .i64 s2.2)]) (fun s2 e3=>[]) rfl rfl () (zb rfl) (fun _ w=>w) ?_;rintro s2 e3 st2 hm2 hd2 h2;refine .ae rfl<|.seq<|.cb h2 rfl (fun h2=>?_) (fun h2=>?_)
    ·refine .sk<|.pr [3,7,8,9,17] rfl<|.seq<|.block<|.ab [3,6,7,8,9,17] rfl<|.region<|.n 6 rfl<|.done<|.blkN<|.thenN<|.pr [3,7,8,9,17] rfl<|.region ?_;cases h2;exact .be rfl<|.ag () hm2 rfl zw
    refine .xq rfl ?_;cases h2;cases hd2 _ rfl
    exact .thenN<|.hU rfl zw
   refine .blkN<|.thenN<|.region ?_;cases h1;exact .be rfl<|.ag () hm1 rfl zw
  refine .xq rfl ?_;cases h1;cases hd1 _ rfl
  exact .thenN<|.hU rfl (zl [] 1 rfl)
 refine .ab [2] rfl ?_;cases h;exact .rv rfl rfl ⟨rfl,rfl⟩ zw
theorem zLO:Ent Tryz.prog 29:=en Tryz.func29 (by kernel_rfl)
noncomputable def sD (i_p0:zH):Option Int:=
 bnd (tC i_p0) fun r1=>bif !r1 then (some 0) else (bnd (qI i_p0) fun r2=>bnd (wE r2) fun r3=>some r3)
theorem kL {i_p0 A1 c1 r} (h:sD i_p0=some r):
    Fun Tryz.prog 29 [.agg (xJ i_p0 A1 c1).toArray] [.ro (SlL eu8 A1 c1 i_p0.Data)] (Val (.int .u32 r)):=by
 refine Fun.intro Tryz.func29 rfl rfl rfl fun w R=>?_;refine .seq<|.region<|.box rfl rfl fun g1=>.b [1] rfl<|.seq<|.seq<|.region<|.lb 0 0 rfl<|.bd h fun r1 hr1 h=>.cv [1] (oW hr1) zKY rfl<|.b [1,5] rfl<|.cb h rfl (fun h=>?_) (fun h=>?_)
 ·refine .abf [2] [] 2 rfl rfl ?_;cases h;exact .rv rfl rfl ⟨rfl,rfl⟩ zw
 refine .sk<|.pr [1] rfl<|.seq<|.region<|.lb 0 0 rfl<|.bd h fun r2 hr2 h=>.cr 3 [1] [] 0 (aZ hr2) zUV rfl fun A2 c2=>.asrt (fun _ w=>w.meltL)<|.bd h fun r3 hr3 h=>.cv [0] (nB hr3) zOm rfl<|.bf [2] [] 3 rfl rfl ?_;cases h;exact .rv rfl rfl ⟨rfl,rfl⟩ zw
theorem zOj:Ent Tryz.prog 53:=en Tryz.func53 (by kernel_rfl)
noncomputable def mY (i_p0:zH):Option (zB × Int):=
 bnd (tC i_p0) fun r1=>bif !r1 then (some ((⟨⟨#[]⟩,(⟨(⟨(⟨⟨#[]⟩,(⟨0,0,0⟩:zK), []⟩:zH),0⟩:yB),(⟨(⟨⟨#[]⟩,(⟨0,0,0⟩:zK), []⟩:zH),0⟩:yB)⟩:(rA yB)),0,0,false⟩:zB),1)) else (bnd (pJ i_p0) fun r2=>bnd (sD i_p0) fun r3=>some ((⟨i_p0.Name,(⟨(⟨r2,r3⟩:yB),(⟨(⟨⟨#[]⟩,(⟨0,0,0⟩:zK), []⟩:zH),0⟩:yB)⟩:(rA yB)),0,0,false⟩:zB),0))
theorem cJ {i_p0 A1 c1 r} (h:mY i_p0=some r):
    Fun Tryz.prog 53 [.agg (xJ i_p0 A1 c1).toArray] [.ro (SlL eu8 A1 c1 i_p0.Data)] (fun v F=>∃ A2 c2 A3 c3,v= .tuple #[.agg (zN r.1 A2 c2 A3 c3).toArray, .int .i64 r.2]∧F= [.ro (SlL eu8 A2 c2 r.1.Slots.e0.Image.Data), .ro (SlL eu8 A3 c3 r.1.Slots.e1.Image.Data)]):=by
 refine Fun.intro Tryz.func53 rfl rfl rfl fun w R=>?_;refine .seq<|.region<|.box rfl rfl fun g1=>.alloc rfl rfl fun g2=>.b [1,2] rfl<|.seq<|.seq<|.region<|.lb 0 1 rfl<|.bd h fun r1 hr1 h=>.cv [2] (oW hr1) zKY rfl<|.b [1,2,7] rfl<|.cb h rfl (fun h=>?_) (fun h=>?_)
 ·refine .a 1 rfl<|.sb 0 0 rfl<|.bf [2,3] [0] 2 rfl rfl<|.asrt (fun _ w=>w.nilSl (cod eu8))<|.asrt (fun _ w=>w.nilSl (cod eu8)) ?_;cases h;exact .rt rfl Tryz.results53 (.cell rfl (.tail _ (.tail _ (.head _))) rfl (.tmp rfl .nil)) rfl ⟨none,0,none,0,rfl,rfl⟩ (zk 2 3 [0,0] [] 0 rfl)
 refine .sk<|.pr [1,2] rfl<|.a 1 rfl<|.lb 0 1 rfl<|.p rfl rfl<|.alloc rfl rfl fun g3=>.sb 0 0 rfl<|.b [1,2,4] rfl<|.seq<|.regionX (iN [1,8,20,7,14,16,24,31] .nil) _ mixed (by kernel_rfl) (zl [] 1 rfl)<|.yx 0 2 rfl<|.yl 0 1 rfl<|.yn 1 rfl<|.xef<|.bd h fun r2 hr2 h=>.cr 5 [3] [] 0 (gH hr2) zCZ rfl fun A2 c2=>.xk (zl [] 2 rfl)<|.bd h fun r3 hr3 h=>.xqc (fun _ h=>h) (kL hr3) zLO rfl rfl rfl rfl (za [2] rfl)<|.yn 2 rfl<|.xef<|.sb 1 1 rfl<|.xk (zl [] 2 rfl)<|.xdone<|.thenN<|.pf [2,4] [0,0,0] 2 rfl rfl<|.seq<|.region<|.lb 0 0 rfl<|.sb 0 2 rfl<|.bf [2,3] [0] 1 rfl rfl<|.asrt (fun _ w=>w.nilSl (cod eu8)) ?_;cases h;exact .rt rfl Tryz.results53 (.cell rfl (.tail _ (.head _)) rfl (.tmp rfl .nil)) rfl ⟨A2,c2,none,0,rfl,rfl⟩ (zk 2 3 [2,0] [] 0 rfl)
theorem zVc:Ent Tryz.prog 90:=en Tryz.func90 (by kernel_rfl)
noncomputable def lY (s_p0:yB):Option Bool:=
 bnd ((bnd (tC s_p0.Image) fun r1=>bif r1 then (bnd (sD s_p0.Image) fun r2=>some (s_p0.Sum==r2)) else (some false):Option Bool)) fun o1=>some o1
theorem zBK {s_p0 A1 c1 r} (h:lY s_p0=some r):
    Fun Tryz.prog 90 [.agg (mZ s_p0 A1 c1).toArray] [.ro (SlL eu8 A1 c1 s_p0.Image.Data)] (Val (.bool r)):=by
 refine Fun.intro Tryz.func90 rfl rfl rfl fun w R=>?_;refine .seq<|.region<|.box rfl rfl fun g1=>.b [1] rfl<|.seq<|.bd h fun o1 hj1 h=>.cu 2 [.s 2 (.bool o1)] [] rfl rfl ?_ ?_
 ·refine .regionF mixed (by kernel_rfl)<|.p rfl rfl<|.lb 0 0 rfl<|.bd hj1 fun r1 hr1 hj1=>.cv [1] (oW hr1) zKY rfl<|.p rfl rfl<|.gs 6 hj1 rfl (fun hj1=>?_) (fun hj1=>?_)
  ·refine .n 1 rfl<|.gOn rfl rfl<|.lb 5 0 rfl<|.n 1 rfl<|.gOn rfl rfl<|.lb 0 0 rfl<|.gOn rfl rfl<|.bd hj1 fun r2 hr2 hj1=>.cv [1] (kL hr2) zLO rfl ?_;cases hj1;exact .beq rfl<|.hU rfl (zl [] 2 rfl)
  cases hj1;exact .beq rfl<|.hU rfl (zl [] 2 rfl)
 cases h;exact .rv rfl rfl ⟨rfl,rfl⟩ zw
theorem zLb:Ent Tryz.prog 86:=en Tryz.func86 (by kernel_rfl)
noncomputable def oK (d_p0:zB) (s_p1:yB):Option Bool:=
 bnd ((bnd (lY s_p1) fun r1=>bif r1 then (some (s_p1.Image.Name.toList==d_p0.Name.toList)) else (some false):Option Bool)) fun o1=>some o1
theorem fL {d_p0 s_p1 A1 c1 A2 c2 A3 c3 r} (h:oK d_p0 s_p1=some r):
    Fun Tryz.prog 86 [.agg (zN d_p0 A1 c1 A2 c2).toArray, .agg (mZ s_p1 A3 c3).toArray] [.ro (SlL eu8 A1 c1 d_p0.Slots.e0.Image.Data), .ro (SlL eu8 A2 c2 d_p0.Slots.e1.Image.Data), .ro (SlL eu8 A3 c3 s_p1.Image.Data)] (Val (.bool r)):=by
 refine Fun.intro Tryz.func86 rfl rfl rfl fun w R=>?_;refine .seq<|.region<|.box rfl rfl fun g1=>.box rfl rfl fun g2=>.b [2,3] rfl<|.seq<|.bd h fun o1 hj1 h=>.cu 5 [.s 4 (.bool o1)] [] rfl rfl ?_ ?_
 ·refine .region<|.lb 0 0 rfl<|.bd hj1 fun r1 hr1 hj1=>.cv [4] (zBK hr1) zVc rfl<|.p rfl rfl<|.gs 7 hj1 rfl (fun hj1=>?_) (fun hj1=>?_)
  ·refine .n 2 rfl<|.gOn rfl rfl<|.lb 0 0 rfl<|.n 1 rfl<|.gOn rfl rfl<|.lb 0 1 rfl ?_;cases hj1;exact .be rfl<|.hU rfl (zl [] 5 rfl)
  cases hj1;exact .be rfl<|.hU rfl (zl [] 5 rfl)
 cases h;exact .rv rfl rfl ⟨rfl,rfl⟩ zw
theorem zHU:Ent Tryz.prog 87:=en Tryz.func87 (by kernel_rfl)
noncomputable def uZ (d_p0:zB):Option Int:=
 bnd (elt [d_p0.Slots.e0,d_p0.Slots.e1] (IntKind.wrap .i64 (1 - d_p0.Running))) fun x1=>some (IntKind.wrap .i64 (1 - d_p0.Running))
theorem nM {d_p0 A1 c1 A2 c2 gb1 r} (h:uZ d_p0=some r):
    Fun Tryz.prog 87 [.pointer (some ⟨gb1,0,none⟩)] [.ro (SlL eu8 A1 c1 d_p0.Slots.e0.Image.Data), .ro (SlL eu8 A2 c2 d_p0.Slots.e1.Image.Data), .res (Box gb1 64 (zN d_p0 A1 c1 A2 c2))] (fun v F=>v= .pointer (some ⟨gb1,1+Int.toNat r*6,none⟩)∧F= [.res (Box gb1 64 (zN d_p0 A1 c1 A2 c2))]):=by
 refine Fun.intro Tryz.func87 rfl rfl rfl fun w R=>?_;refine .ab [0] rfl<|.seq<|.regionF mixed (by kernel_rfl)<|.n 4 rfl<|.lb 14 2 rfl<|.n 3 rfl<|.bd h fun x1 hx1 h=>.ixP (sz:=6) hx1 rfl rfl rfl rfl rfl rfl rfl rfl<|.bq [2] rfl ?_;cases h;exact .rv rfl rfl ⟨rfl,rfl⟩ (zl [] 2 rfl)
theorem zFH:Ent Tryz.prog 27:=en Tryz.func27 (by kernel_rfl)
noncomputable def uY (d_p0:zB):Option Bool:=
 bnd ((bif decide (d_p0.Active<0) then (some true) else (bif decide (d_p0.Active>1) then (some true) else (bif decide (d_p0.Running<0) then (some true) else (bif decide (d_p0.Running>1) then (some true) else (bnd (elt [d_p0.Slots.e0,d_p0.Slots.e1] d_p0.Active) fun x1=>bnd (oK d_p0 x1) fun r1=>bif !r1 then (some true) else (bnd (elt [d_p0.Slots.e0,d_p0.Slots.e1] d_p0.Running) fun x2=>bnd (oK d_p0 x2) fun r2=>some (!r2)))))):Option Bool)) fun o1=>bif o1 then (some false) else (bnd ((bif !d_p0.Trial then (some true) else (bif (d_p0.Running==d_p0.Active) then (bnd (uZ d_p0) fun r3=>bnd (elt [d_p0.Slots.e0,d_p0.Slots.e1] r3) fun x3=>bnd (oK d_p0 x3) fun r4=>some r4) else (some false)):Option Bool)) fun o2=>some o2)
end Go.Proofs.YtplchdlgdjcojaaGreatDoor
end
section
namespace Go.Proofs.YtplchdlgdjcojaaGreatDoor
open Go
set_option linter.unusedVariables false
set_option maxHeartbeats 4000000
set_option maxRecDepth 4000
theorem pB {d_p0 A1 c1 A2 c2 r} (h:uY d_p0=some r):
    Fun Tryz.prog 27 [.agg (zN d_p0 A1 c1 A2 c2).toArray] [.ro (SlL eu8 A1 c1 d_p0.Slots.e0.Image.Data), .ro (SlL eu8 A2 c2 d_p0.Slots.e1.Image.Data)] (Val (.bool r)):=by
 refine Fun.intro Tryz.func27 rfl rfl rfl fun w R=>?_;refine .seq<|.region<|.box rfl rfl fun g1=>.b [1] rfl<|.seq<|.seq<|.bd h fun o1 hj1 h=>.cutK 0 (fun (e1:Unit)=>[1, .s 40 (.bool o1)]) (fun e1=>[]) rfl rfl ?_ ?_
 ·refine .regionF mixed (by kernel_rfl)<|.p rfl rfl<|.lb 13 0 rfl<|.n 2 rfl<|.gs 6 hj1 rfl (fun hj1=>?_) (fun hj1=>?_)
  ·cases hj1;exact .beq rfl<|.hU rfl zw
  refine .n 1 rfl<|.gOn rfl rfl<|.lb 13 0 rfl<|.n 3 rfl<|.gs 11 hj1 rfl (fun hj1=>?_) (fun hj1=>?_)
  ·cases hj1;exact .beq rfl<|.hU rfl zw
  refine .n 1 rfl<|.gOn rfl rfl<|.lb 14 0 rfl<|.n 3 rfl<|.gs 16 hj1 rfl (fun hj1=>?_) (fun hj1=>?_)
  ·cases hj1;exact .beq rfl<|.hU rfl zw
  refine .n 1 rfl<|.gOn rfl rfl<|.lb 14 0 rfl<|.n 3 rfl<|.gs 21 hj1 rfl (fun hj1=>?_) (fun hj1=>?_)
  ·cases hj1;exact .beq rfl<|.hU rfl zw
  refine .gOn rfl rfl<|.lb 0 0 rfl<|.n 1 rfl<|.gOn rfl rfl<|.lb 13 0 rfl<|.n 1 rfl<|.gOn rfl rfl<|.bd hj1 fun x1 hx1 hj1=>.ixP (sz:=6) hx1 rfl rfl rfl rfl rfl rfl rfl rfl<|.gOn rfl rfl<|.ldP (ls:=oQ) 0 [.string d_p0.Name] [.int .i64 d_p0.Active, .int .i64 d_p0.Running, .bool d_p0.Trial] [(d_p0.Slots.e0,((A1,c1),())),(d_p0.Slots.e1,((A2,c2),()))] (fun ex=>.agg (mZ x1 ex.1.1 ex.1.2).toArray) hx1 rfl rfl (.head _) rfl rfl rfl ⟨(.tail _ (.head _)),(zm 2 rfl),trivial⟩ rfl (fun _=>rfl) fun ex1=>?_;obtain ⟨⟨A3,c3⟩,_⟩:=ex1;refine .nm 4 rfl<|.gOn rfl rfl<|.bd hj1 fun r1 hr1 hj1=>.cv [2,3,0] (fL hr1) zLb rfl<|.n 3 rfl<|.gs 31 hj1 rfl (fun hj1=>?_) (fun hj1=>?_)
  ·cases hj1;exact .beq rfl<|.hU rfl (zl [] 1 rfl)
  refine .gOn rfl rfl<|.lb 0 1 rfl<|.n 1 rfl<|.gOn rfl rfl<|.lb 14 1 rfl<|.n 1 rfl<|.gOn rfl rfl<|.bd hj1 fun x2 hx2 hj1=>.ixP (sz:=6) hx2 rfl rfl rfl rfl rfl rfl rfl rfl<|.gOn rfl rfl<|.ldP (ls:=oQ) 0 [.string d_p0.Name] [.int .i64 d_p0.Active, .int .i64 d_p0.Running, .bool d_p0.Trial] [(d_p0.Slots.e0,((A1,c1),())),(d_p0.Slots.e1,((A2,c2),()))] (fun ex=>.agg (mZ x2 ex.1.1 ex.1.2).toArray) hx2 rfl rfl (.tail _ (.head _)) rfl rfl rfl ⟨(zm 2 rfl),(zm 3 rfl),trivial⟩ rfl (fun _=>rfl) fun ex2=>?_;obtain ⟨⟨A4,c4⟩,_⟩:=ex2;refine .nm 5 rfl<|.gOn rfl rfl<|.bd hj1 fun r2 hr2 hj1=>.cv [3,4,0] (fL hr2) zLb rfl ?_;cases hj1;exact .beq rfl<|.hU rfl (zl [] 2 rfl)
 rintro e1;refine .cb h rfl (fun h=>?_) (fun h=>?_)
 ·refine .abf [2] [] 3 rfl rfl ?_;cases h;exact .rv rfl rfl ⟨rfl,rfl⟩ zw
 refine .sk<|.pr [1] rfl<|.seq<|.bd h fun o2 hj2 h=>.cu 3 [.s 2 (.bool o2)] [] rfl rfl ?_ ?_
 ·refine .regionX (iN [0,5,8,12,16,21,24,29,32,36,40,47,48,55,59,60,64,68] .nil) _ mixed (by kernel_rfl) zw<|.yn 1 rfl<|.yx 15 0 rfl<|.yn 2 rfl<|.sB 44 hj2 rfl (fun hj2=>?_) (fun hj2=>?_)
  ·refine .yn 14 rfl<|.xdone ?_;cases hj2;exact .thenN<|.hU rfl (zl [] 3 rfl)
  refine .yn 1 rfl<|.xgOn rfl rfl<|.yx 14 0 rfl<|.yn 1 rfl<|.xgOn rfl rfl<|.yx 13 0 rfl<|.yn 2 rfl<|.sB 50 hj2 rfl (fun hj2=>?_) (fun hj2=>?_)
  ·refine .xgOn rfl rfl<|.yl 0 0 rfl<|.xgOn rfl rfl<|.xef<|.bd hj2 fun r3 hr3 hj2=>.cq 3 [1,2] [] 0 (nM hr3) zHU rfl<|.xk zw<|.yn 1 rfl<|.xgOn rfl rfl<|.xef<|.bd hj2 fun x3 hx3 hj2=>.ldP (ls:=oQ) 0 [.string d_p0.Name] [.int .i64 d_p0.Active, .int .i64 d_p0.Running, .bool d_p0.Trial] [(d_p0.Slots.e0,((A1,c1),())),(d_p0.Slots.e1,((A2,c2),()))] (fun ex=>.agg (mZ x3 ex.1.1 ex.1.2).toArray) hx3 rfl rfl (.head _) rfl rfl rfl ⟨(.tail _ (.head _)),(zm 2 rfl),trivial⟩ rfl (fun _=>rfl) fun ex3=>?_;obtain ⟨⟨A5,c5⟩,_⟩:=ex3;refine .nm 4 rfl<|.xk (zl [] 1 rfl)<|.xgOn rfl rfl<|.xef<|.bd hj2 fun r4 hr4 hj2=>.cv [2,3,0] (fL hr4) zLb rfl<|.xk (zl [] 1 rfl)<|.yn 3 rfl<|.xdone ?_;cases hj2;exact .thenN<|.hU rfl (zl [] 4 rfl)
  refine .yn 8 rfl<|.xdone ?_;cases hj2;exact .thenN<|.hU rfl (zl [] 3 rfl)
 cases h;exact .rv rfl rfl ⟨rfl,rfl⟩ zw
theorem zVs:Ent Tryz.prog 142:=en Tryz.func142 (by kernel_rfl)
noncomputable def vT (l_p0:(List zL)):Option Bool:=
 bif decide ((l_p0.length:Int)>8) then (some false) else (bnd (yG (τ:=Bool ⊕ Unit) (fun (s1:Int)=>bif decide (s1<(l_p0.length:Int)) then (bnd (elt l_p0 s1) fun x1=>bnd ((bnd (uF x1.Name) fun r1=>bif !r1 then (some true) else (bnd (vN x1.Version) fun r2=>bif !r2 then (some true) else (bif decide (s1>0) then (bnd (elt l_p0 (IntKind.wrap .i64 (s1 - 1))) fun x2=>some (Op.bytesLess x1.Name.toList x2.Name.toList||(x1.Name.toList==x2.Name.toList))) else (some false))):Option Bool)) fun o3=>bif o3 then (some (.done (.inl false))) else (some (.next (IntKind.wrap .i64 (s1+1))))) else (some (.done (.inr ())))) 0) fun o1=>wT o1 fun o2=>some true)
theorem zAi {l_p0 A1 c1 r} (h:vT l_p0=some r):
    Fun Tryz.prog 142 [.slice A1 l_p0.length c1] [.ro (SlL zJ A1 c1 l_p0)] (Val (.bool r)):=by
 refine Fun.intro Tryz.func142 rfl rfl rfl fun w R=>?_;refine .ab [0] rfl<|.seq<|.ab [0,7] rfl<|.cb h rfl (fun h=>?_) (fun h=>?_)
 ·refine .abf [2] [] 1 rfl rfl ?_;cases h;exact .rv rfl rfl ⟨rfl,rfl⟩ zw
 refine .sk<|.pr [0] rfl<|.seq<|.ae rfl<|.bd h fun o1 hl1 h=>.cutJ 1 (fun (o2:Unit) (e2:Unit)=>[]) (fun o2 e2=>[]) rfl rfl (fun o2=>o1= .inr o2) ?_ ?_
 ·refine .block<|.loopQ hl1 0 (fun (s1:Int) (e1:Unit)=>[0,8,9, .s 10 (.int .i64 s1)]) (fun s1 e1=>[]) rfl rfl () (zb rfl) (fun _ w=>w) ?_;rintro s1 e1 st1 hm1 hd1 h1;refine .ae rfl<|.seq<|.cb h1 rfl (fun h1=>?_) (fun h1=>?_)
  ·refine .sk<|.pr [0,8,9,10] rfl<|.seq<|.block<|.a 1 rfl<|.bd h1 fun x1 hx1 h1=>.ix1 hx1 0 rfl fun b1 ob1=>.ld ob1 0 0 rfl<|.alloc rfl rfl fun g1=>.p rfl rfl<|.sb 0 0 rfl<|.bf [0,3,4,8,9,10] [0] 1 rfl rfl<|.seq<|.bd h1 fun o3 hj1 h1=>.cu 1 [0,8,9,10, .s 39 (.bool o3)] [] rfl rfl ?_ ?_
   ·refine .regionF mixed (by kernel_rfl)<|.p rfl rfl<|.lb 0 0 rfl<|.bd hj1 fun r1 hr1 hj1=>.cv [] (kJ hr1) zIB rfl<|.n 2 rfl<|.gs 19 hj1 rfl (fun hj1=>?_) (fun hj1=>?_)
    ·cases hj1;exact .beq rfl<|.hU rfl (zl [] 1 rfl)
    refine .n 1 rfl<|.gOn rfl rfl<|.lb 1 0 rfl<|.gOn rfl rfl<|.bd hj1 fun r2 hr2 hj1=>.cv [] (mL hr2) zJA rfl<|.n 3 rfl<|.gs 25 hj1 rfl (fun hj1=>?_) (fun hj1=>?_)
    ·cases hj1;exact .beq rfl<|.hU rfl (zl [] 1 rfl)
    refine .n 3 rfl<|.gs 28 hj1 rfl (fun hj1=>?_) (fun hj1=>?_)
    ·refine .n 1 rfl<|.gOn rfl rfl<|.lb 0 0 rfl<|.n 3 rfl<|.gOn rfl rfl<|.bd hj1 fun x2 hx2 hj1=>.ix1 hx2 1 rfl fun b2 ob2=>.n 1 rfl<|.gOn rfl rfl<|.ld ob2 0 0 rfl ?_;cases hj1;exact .beq rfl<|.hU rfl (zl [] 2 rfl)
    cases hj1;exact .beq rfl<|.hU rfl (zl [] 1 rfl)
   refine .cb h1 rfl (fun h1=>?_) (fun h1=>?_)
   ·refine .abf [2] [] 1 rfl rfl ?_;cases h1;cases hd1 _ rfl
    have h:some _=some _:=h;cases h;exact .rv rfl rfl ⟨rfl,rfl⟩ zw
   refine .skip<|.blkN<|.thenN<|.pr [0,8,9,10] rfl<|.region ?_;cases h1;exact .be rfl<|.ag () hm1 rfl zw
  refine .xq rfl ?_;cases h1;cases hd1 _ rfl
  exact .thenN<|.hereI () () rfl trivial (zl [] 1 rfl)
 rintro o2 e2 ho;subst ho;have h:=unR h;refine .ae rfl ?_;cases h;exact .rv rfl rfl ⟨rfl,rfl⟩ zw
theorem zVU:Ent Tryz.prog 143:=en Tryz.func143 (by kernel_rfl)
noncomputable def rJ (needs:(List zT)):Option Bool:=
 bif decide ((needs.length:Int)>16) then (some false) else (bnd (yG (τ:=Bool ⊕ Unit) (fun (s1:Int)=>bif decide (s1<(needs.length:Int)) then (bnd (elt needs s1) fun x1=>bnd ((bnd (uF x1.Component) fun r1=>bif !r1 then (some true) else (bnd (uF x1.On) fun r2=>bif !r2 then (some true) else (bif (x1.Component.toList==x1.On.toList) then (some true) else (bnd (vN x1.From) fun r3=>bif !r3 then (some true) else (bnd (vN x1.At) fun r4=>some (!r4))))):Option Bool)) fun o3=>bif o3 then (some (.done (.inl false))) else (some (.next (IntKind.wrap .i64 (s1+1))))) else (some (.done (.inr ())))) 0) fun o1=>wT o1 fun o2=>some true)
theorem zEo {needs A1 c1 r} (h:rJ needs=some r):
    Fun Tryz.prog 143 [.slice A1 needs.length c1] [.ro (SlL zR A1 c1 needs)] (Val (.bool r)):=by
 refine Fun.intro Tryz.func143 rfl rfl rfl fun w R=>?_;refine .ab [0] rfl<|.seq<|.ab [0,7] rfl<|.cb h rfl (fun h=>?_) (fun h=>?_)
 ·refine .abf [2] [] 1 rfl rfl ?_;cases h;exact .rv rfl rfl ⟨rfl,rfl⟩ zw
 refine .sk<|.pr [0] rfl<|.seq<|.ab [8,9,10] rfl<|.bd h fun o1 hl1 h=>.cutJ 1 (fun (o2:Unit) (e2:Unit)=>[]) (fun o2 e2=>[]) rfl rfl (fun o2=>o1= .inr o2) ?_ ?_
 ·refine .block<|.loopQ hl1 0 (fun (s1:Int) (e1:Unit)=>[8,9, .s 10 (.int .i64 s1)]) (fun s1 e1=>[]) rfl rfl () (zb rfl) (fun _ w=>w) ?_;rintro s1 e1 st1 hm1 hd1 h1;refine .ae rfl<|.seq<|.cb h1 rfl (fun h1=>?_) (fun h1=>?_)
  ·refine .sk<|.pr [8,9,10] rfl<|.seq<|.block<|.seq<|.region<|.bd h1 fun x1 hx1 h1=>.ix1 hx1 0 rfl fun b1 ob1=>.ld ob1 0 0 rfl<|.alloc rfl rfl fun g1=>.sb 0 0 rfl<|.bf [4,8,9,10] [0] 1 rfl rfl<|.seq<|.bd h1 fun o3 hj1 h1=>.cu 1 [8,9,10, .s 42 (.bool o3)] [] rfl rfl ?_ ?_
   ·refine .region<|.p rfl rfl<|.lb 0 0 rfl<|.bd hj1 fun r1 hr1 hj1=>.cv [] (kJ hr1) zIB rfl<|.n 2 rfl<|.gs 18 hj1 rfl (fun hj1=>?_) (fun hj1=>?_)
    ·cases hj1;exact .be rfl<|.hU rfl (zl [] 1 rfl)
    refine .n 1 rfl<|.gOn rfl rfl<|.lb 4 0 rfl<|.gOn rfl rfl<|.bd hj1 fun r2 hr2 hj1=>.cv [] (kJ hr2) zIB rfl<|.n 3 rfl<|.gs 24 hj1 rfl (fun hj1=>?_) (fun hj1=>?_)
    ·cases hj1;exact .be rfl<|.hU rfl (zl [] 1 rfl)
    refine .n 1 rfl<|.gOn rfl rfl<|.lb 0 0 rfl<|.n 1 rfl<|.gOn rfl rfl<|.lb 4 0 rfl<|.n 3 rfl<|.gs 31 hj1 rfl (fun hj1=>?_) (fun hj1=>?_)
    ·cases hj1;exact .be rfl<|.hU rfl (zl [] 1 rfl)
    refine .n 1 rfl<|.gOn rfl rfl<|.lb 1 0 rfl<|.gOn rfl rfl<|.bd hj1 fun r3 hr3 hj1=>.cv [] (mL hr3) zJA rfl<|.n 3 rfl<|.gs 37 hj1 rfl (fun hj1=>?_) (fun hj1=>?_)
    ·cases hj1;exact .be rfl<|.hU rfl (zl [] 1 rfl)
    refine .n 1 rfl<|.gOn rfl rfl<|.lb 5 0 rfl<|.gOn rfl rfl<|.bd hj1 fun r4 hr4 hj1=>.cv [] (mL hr4) zJA rfl ?_;cases hj1;exact .be rfl<|.hU rfl (zl [] 1 rfl)
   refine .cb h1 rfl (fun h1=>?_) (fun h1=>?_)
   ·refine .abf [2] [] 1 rfl rfl ?_;cases h1;cases hd1 _ rfl
    have h:some _=some _:=h;cases h;exact .rv rfl rfl ⟨rfl,rfl⟩ zw
   refine .skip<|.blkN<|.thenN<|.pr [8,9,10] rfl<|.region ?_;cases h1;exact .be rfl<|.ag () hm1 rfl zw
  refine .xq rfl ?_;cases h1;cases hd1 _ rfl
  exact .thenN<|.hereI () () rfl trivial (zl [] 1 rfl)
 rintro o2 e2 ho;subst ho;have h:=unR h;refine .ae rfl ?_;cases h;exact .rv rfl rfl ⟨rfl,rfl⟩ zw
theorem zTf:Ent Tryz.prog 169:=en Tryz.func169 (by kernel_rfl)
noncomputable def qJ (l_p0:(List zL)) (name:ByteArray):Option (zK × Bool):=
 bnd (yG (τ:=(zK × Bool) ⊕ Unit) (fun (s1:Int)=>bif decide (s1<(l_p0.length:Int)) then (bnd (elt l_p0 s1) fun x1=>bif (x1.Name.toList==name.toList) then (some (.done (.inl (x1.Version,true)))) else (some (.next (IntKind.wrap .i64 (s1+1))))) else (some (.done (.inr ())))) 0) fun o1=>wT o1 fun o2=>some ((⟨0,0,0⟩:zK),false)
theorem zAa {l_p0 name A1 c1 r} (h:qJ l_p0 name=some r):
    Fun Tryz.prog 169 [.slice A1 l_p0.length c1, .string name] [.ro (SlL zJ A1 c1 l_p0)] (Val (.tuple #[.agg #[.int .i64 r.1.Major, .int .i64 r.1.Minor, .int .i64 r.1.Patch], .bool r.2])):=by
 refine Fun.intro Tryz.func169 rfl rfl rfl fun w R=>?_;refine .seq<|.region<|.alloc rfl rfl fun g1=>.b [0,1,4] rfl<|.seq<|.ab [1,4,8,9,10] rfl<|.bd h fun o1 hl1 h=>.cutJ 2 (fun (o2:Unit) (e2:Unit)=>[4]) (fun o2 e2=>[0]) rfl rfl (fun o2=>o1= .inr o2) ?_ ?_
 ·refine .block<|.loopQ hl1 0 (fun (s1:Int) (e1:Unit)=>[1,4,8,9, .s 10 (.int .i64 s1)]) (fun s1 e1=>[]) rfl rfl () (zb rfl) (fun _ w=>w) ?_;rintro s1 e1 st1 hm1 hd1 h1;refine .ae rfl<|.seq<|.cb h1 rfl (fun h1=>?_) (fun h1=>?_)
  ·refine .sk<|.pr [1,4,8,9,10] rfl<|.seq<|.block<|.seq<|.region<|.bd h1 fun x1 hx1 h1=>.ix1 hx1 1 rfl fun b1 ob1=>.ld ob1 0 0 rfl<|.alloc rfl rfl fun g2=>.sb 0 0 rfl<|.bf [1,4,7,8,9,10] [0] 1 rfl rfl<|.a 1 rfl<|.lb 0 0 rfl<|.b [1,4,7,8,9,10,17] rfl<|.cb h1 rfl (fun h1=>?_) (fun h1=>?_)
   ·refine .a 1 rfl<|.lb 1 0 rfl<|.sb 0 1 rfl<|.bf [4,5] [0] 2 rfl rfl ?_;cases h1;cases hd1 _ rfl
    have h:some _=some _:=h;cases h;exact .rt rfl Tryz.results169 (.cell rfl (.head _) rfl (.tmp rfl .nil)) rfl ⟨rfl,rfl⟩ (zl [] 1 rfl)
   refine .skip<|.blkN<|.thenN<|.pf [1,4,8,9,10] [] 1 rfl rfl<|.region ?_;cases h1;exact .be rfl<|.ag () hm1 rfl zw
  refine .xq rfl ?_;cases h1;cases hd1 _ rfl
  exact .thenN<|.hereI () () rfl (zb rfl) (zl [0] 1 rfl)
 rintro o2 e2 ho;subst ho;have h:=unR h;refine .a 1 rfl<|.sb 0 0 rfl<|.b [4,5] rfl ?_;cases h;exact .rt rfl Tryz.results169 (.cell rfl (.head _) rfl (.tmp rfl .nil)) rfl ⟨rfl,rfl⟩ (zl [] 1 rfl)
theorem zQJ:Ent Tryz.prog 266:=en Tryz.func266 (by kernel_rfl)
noncomputable def pK (x_p0:Int):Option Bool:=
 some (x_p0 != x_p0)
theorem bM {x_p0 r} (h:pK x_p0=some r):
    Fun Tryz.prog 266 [.int .i64 x_p0] [] (Val (.bool r)):=by
 unfold pK at h
 refine Fun.intro Tryz.func266 rfl rfl rfl fun w R=>?_;refine .ab [0] rfl<|.ab [2] rfl ?_;cases h;exact .rv rfl rfl ⟨rfl,rfl⟩ zw
theorem zMT:Ent Tryz.prog 256:=en Tryz.func256 (by kernel_rfl)
noncomputable def tK (x_p0:Int) (y_p1:Int):Option Int:=
 bnd (pK x_p0) fun r1=>bnd (pK y_p1) fun r2=>bif r1 then (bif r2 then (some 0) else (some (-1))) else (bif r2 then (some 1) else (bif decide (x_p0<y_p1) then (some (-1)) else (bif decide (x_p0>y_p1) then (some 1) else (some 0))))
theorem lP {x_p0 y_p1 r} (h:tK x_p0 y_p1=some r):
    Fun Tryz.prog 256 [.int .i64 x_p0, .int .i64 y_p1] [] (Val (.int .i64 r)):=by
 refine Fun.intro Tryz.func256 rfl rfl rfl fun w R=>?_;refine .ab [0,1] rfl<|.a 1 rfl<|.bd h fun r1 hr1 h=>.cv [] (bM hr1) zQJ rfl<|.b [0,1,5] rfl<|.a 1 rfl<|.bd h fun r2 hr2 h=>.cv [] (bM hr2) zQJ rfl<|.b [0,1,5,6] rfl<|.seq<|.ab [0,1,6,11] rfl<|.cb h rfl (fun h=>?_) (fun h=>?_)
 ·refine .seq<|.ab [12] rfl<|.cb h rfl (fun h=>?_) (fun h=>?_)
  ·refine .ab [4] rfl ?_;cases h;exact .rv rfl rfl ⟨rfl,rfl⟩ zw
  refine .sk<|.pr [] rfl<|.ae rfl ?_;cases h;exact .rv rfl rfl ⟨rfl,rfl⟩ zw
 refine .sk<|.pr [0,1,6] rfl<|.seq<|.ab [0,1,13] rfl<|.cb h rfl (fun h=>?_) (fun h=>?_)
 ·refine .ab [4] rfl ?_;cases h;exact .rv rfl rfl ⟨rfl,rfl⟩ zw
 refine .sk<|.pr [0,1] rfl<|.seq<|.ab [0,1,16] rfl<|.cb h rfl (fun h=>?_) (fun h=>?_)
 ·refine .ab [4] rfl ?_;cases h;exact .rv rfl rfl ⟨rfl,rfl⟩ zw
 refine .sk<|.pr [0,1] rfl<|.seq<|.ab [19] rfl<|.cb h rfl (fun h=>?_) (fun h=>?_)
 ·refine .ab [4] rfl ?_;cases h;exact .rv rfl rfl ⟨rfl,rfl⟩ zw
 refine .sk<|.pr [] rfl<|.ae rfl ?_;cases h;exact .rv rfl rfl ⟨rfl,rfl⟩ zw
theorem zWk:Ent Tryz.prog 233:=en Tryz.func233 (by kernel_rfl)
noncomputable def pX (a_p0:(zGP Int)) (b_p1:(zGP Int)):Option Int:=
 bnd (tK a_p0.e0 b_p1.e0) fun r1=>bif (r1 != 0) then (some r1) else (bnd (tK a_p0.e1 b_p1.e1) fun r2=>bif (r2 != 0) then (some r2) else (bnd (tK a_p0.e2 b_p1.e2) fun r3=>bif (r3 != 0) then (some r3) else (some 0)))
theorem bV {a_p0 b_p1 r} (h:pX a_p0 b_p1=some r):
    Fun Tryz.prog 233 [.agg #[.int .i64 a_p0.e0, .int .i64 a_p0.e1, .int .i64 a_p0.e2], .agg #[.int .i64 b_p1.e0, .int .i64 b_p1.e1, .int .i64 b_p1.e2]] [] (Val (.int .i64 r)):=by
 refine Fun.intro Tryz.func233 rfl rfl rfl fun w R=>?_;refine .seq<|.region<|.box rfl rfl fun g1=>.box rfl rfl fun g2=>.b [2,3] rfl<|.seq<|.ae rfl<|.block<|.rounds 9<|.round<|.ae rfl<|.seq<|.condT rfl<|.sk<|.pr [2,3,7] rfl<|.seq<|.block<|.ab [2,3,5,7] rfl<|.seq<|.regionF mixed (by kernel_rfl)<|.n 2 rfl<|.lb 0 1 rfl<|.n 2 rfl<|.lb 0 0 rfl<|.bd h fun r1 hr1 h=>.cv [] (lP hr1) zMT rfl<|.bq [2,3,6,7] rfl<|.ab [2,3,6,7,18] rfl<|.cb h rfl (fun h=>?_) (fun h=>?_)
 ·refine .abf [4] [] 2 rfl rfl ?_;cases h;exact .rv rfl rfl ⟨rfl,rfl⟩ zw
 refine .skip<|.blkN<|.thenN<|.pr [2,3,7] rfl<|.region<|.be rfl<|.round<|.pr [2,3,7] rfl<|.ae rfl<|.seq<|.condT rfl<|.sk<|.pr [2,3,7] rfl<|.seq<|.block<|.ab [2,3,5,7] rfl<|.seq<|.regionF mixed (by kernel_rfl)<|.n 2 rfl<|.lb 1 1 rfl<|.n 2 rfl<|.lb 1 0 rfl<|.bd h fun r2 hr2 h=>.cv [] (lP hr2) zMT rfl<|.bq [2,3,6,7] rfl<|.ab [2,3,6,7,18] rfl<|.cb h rfl (fun h=>?_) (fun h=>?_)
 ·refine .abf [4] [] 2 rfl rfl ?_;cases h;exact .rv rfl rfl ⟨rfl,rfl⟩ zw
 refine .skip<|.blkN<|.thenN<|.pr [2,3,7] rfl<|.region<|.be rfl<|.round<|.pr [2,3,7] rfl<|.ae rfl<|.seq<|.condT rfl<|.sk<|.pr [2,3,7] rfl<|.seq<|.block<|.ab [2,3,5,7] rfl<|.seq<|.regionF mixed (by kernel_rfl)<|.n 2 rfl<|.lb 2 1 rfl<|.n 2 rfl<|.lb 2 0 rfl<|.bd h fun r3 hr3 h=>.cv [] (lP hr3) zMT rfl<|.bq [2,3,6,7] rfl<|.ab [2,3,6,7,18] rfl<|.cb h rfl (fun h=>?_) (fun h=>?_)
 ·refine .abf [4] [] 2 rfl rfl ?_;cases h;exact .rv rfl rfl ⟨rfl,rfl⟩ zw
 refine .skip<|.blkN<|.thenN<|.pr [2,3,7] rfl<|.region<|.be rfl<|.round<|.pr [2,3,7] rfl<|.ae rfl<|.seq<|.condF rfl<|.xq rfl<|.thenN<|.pf [] [] 2 rfl rfl<|.ae rfl ?_;cases h;exact .rv rfl rfl ⟨rfl,rfl⟩ zw
theorem zSO:Ent Tryz.prog 170:=en Tryz.func170 (by kernel_rfl)
noncomputable def rU (a_p0:zK) (b_p1:zK):Option Int:=
 bnd (vI a_p0) fun r1=>bnd (vI b_p1) fun r2=>bnd (pX r1 r2) fun r3=>some r3
theorem eC {a_p0 b_p1 r} (h:rU a_p0 b_p1=some r):
    Fun Tryz.prog 170 [.agg #[.int .i64 a_p0.Major, .int .i64 a_p0.Minor, .int .i64 a_p0.Patch], .agg #[.int .i64 b_p1.Major, .int .i64 b_p1.Minor, .int .i64 b_p1.Patch]] [] (Val (.int .i64 r)):=by
 refine Fun.intro Tryz.func170 rfl rfl rfl fun w R=>?_;refine .seq<|.region<|.box rfl rfl fun g1=>.box rfl rfl fun g2=>.b [2,3] rfl<|.seq<|.regionF mixed (by kernel_rfl)<|.lb 0 1 rfl<|.bd h fun r1 hr1 h=>.cv [] (kE hr1) zMV rfl<|.lb 0 0 rfl<|.bd h fun r2 hr2 h=>.cv [] (kE hr2) zMV rfl<|.bd h fun r3 hr3 h=>.cv [] (bV hr3) zWk rfl<|.beq rfl<|.pf [4] [] 2 rfl rfl ?_;cases h;exact .rv rfl rfl ⟨rfl,rfl⟩ zw
theorem zUW:Ent Tryz.prog 92:=en Tryz.func92 (by kernel_rfl)
noncomputable def qB (l_p0:(List zL)) (n_p1:zT):Option Bool:=
 bnd (qJ l_p0 n_p1.Component) fun r1=>bnd ((bif !r1.2 then (some true) else (bnd (rU r1.1 n_p1.From) fun r2=>some (decide (r2<0))):Option Bool)) fun o1=>bif o1 then (some true) else (bnd (qJ l_p0 n_p1.On) fun r3=>bnd ((bif r3.2 then (bnd (rU r3.1 n_p1.At) fun r4=>some (decide (r4≥0))) else (some false):Option Bool)) fun o2=>some o2)
theorem zBd {l_p0 n_p1 A1 c1 r} (h:qB l_p0 n_p1=some r):
    Fun Tryz.prog 92 [.slice A1 l_p0.length c1, .agg (zCX n_p1).toArray] [.ro (SlL zJ A1 c1 l_p0)] (Val (.bool r)):=by
 refine Fun.intro Tryz.func92 rfl rfl rfl fun w R=>?_;refine .seq<|.region<|.box rfl rfl fun g1=>.b [0,3] rfl<|.a 2 rfl<|.lb 0 0 rfl<|.bd h fun r1 hr1 h=>.cv [1] (zAa hr1) zTf rfl<|.n 3 rfl<|.alloc rfl rfl fun g2=>.sb 0 0 rfl<|.b [0,3,5,6] rfl<|.seq<|.seq<|.bd h fun o1 hj1 h=>.cu 1 [0,3, .s 23 (.bool o1)] [] rfl rfl ?_ ?_
 ·refine .region<|.n 3 rfl<|.gs 17 hj1 rfl (fun hj1=>?_) (fun hj1=>?_)
  ·cases hj1;exact .be rfl<|.hU rfl (zl [] 1 rfl)
  refine .gOn rfl rfl<|.lb 0 0 rfl<|.n 1 rfl<|.gOn rfl rfl<|.lb 1 1 rfl<|.gOn rfl rfl<|.bd hj1 fun r2 hr2 hj1=>.cv [] (eC hr2) zSO rfl ?_;cases hj1;exact .be rfl<|.hU rfl (zl [] 1 rfl)
 refine .cb h rfl (fun h=>?_) (fun h=>?_)
 ·refine .abf [4] [] 2 rfl rfl ?_;cases h;exact .rv rfl rfl ⟨rfl,rfl⟩ zw
 refine .sk<|.pr [0,3] rfl<|.a 2 rfl<|.lb 4 0 rfl<|.bd h fun r3 hr3 h=>.cv [1] (zAa hr3) zTf rfl<|.n 3 rfl<|.alloc rfl rfl fun g3=>.sb 0 0 rfl<|.bf [3,6,7] [0,0] 1 rfl rfl<|.seq<|.bd h fun o2 hj2 h=>.cu 2 [.s 4 (.bool o2)] [] rfl rfl ?_ ?_
 ·refine .region<|.n 2 rfl<|.gs 32 hj2 rfl (fun hj2=>?_) (fun hj2=>?_)
  ·refine .gOn rfl rfl<|.lb 0 0 rfl<|.n 1 rfl<|.gOn rfl rfl<|.lb 5 1 rfl<|.gOn rfl rfl<|.bd hj2 fun r4 hr4 hj2=>.cv [] (eC hr4) zSO rfl ?_;cases hj2;exact .be rfl<|.hU rfl (zl [] 2 rfl)
  cases hj2;exact .be rfl<|.hU rfl (zl [] 2 rfl)
 cases h;exact .rv rfl rfl ⟨rfl,rfl⟩ zw
theorem zDV:Ent Tryz.prog 62:=en Tryz.func62 (by kernel_rfl)
noncomputable def xT (l_p0:(List zL)) (needs:(List zT)):Option (Int × Int):=
 bnd (vT l_p0) fun r1=>bif !r1 then (some (0,1)) else (bnd (rJ needs) fun r2=>bif !r2 then (some (0,2)) else (bnd (yG (τ:=(Int × Int) ⊕ Unit) (fun (s1:Int)=>bif decide (s1<(needs.length:Int)) then (bnd (elt needs s1) fun x1=>bnd (qB l_p0 x1) fun r3=>bif !r3 then (some (.done (.inl (s1,0)))) else (some (.next (IntKind.wrap .i64 (s1+1))))) else (some (.done (.inr ())))) 0) fun o1=>wT o1 fun o2=>some ((-1),0)))
theorem uN {l_p0 needs A1 c1 A2 c2 r} (h:xT l_p0 needs=some r):
    Fun Tryz.prog 62 [.slice A1 l_p0.length c1, .slice A2 needs.length c2] [.ro (SlL zJ A1 c1 l_p0), .ro (SlL zR A2 c2 needs)] (Val (.tuple #[.int .i64 r.1, .int .i64 r.2])):=by
 refine Fun.intro Tryz.func62 rfl rfl rfl fun w R=>?_;refine .ab [0,1] rfl<|.seq<|.a 1 rfl<|.bd h fun r1 hr1 h=>.cv [0] (zAi hr1) zVs rfl<|.b [0,1,10] rfl<|.cb h rfl (fun h=>?_) (fun h=>?_)
 ·refine .abf [4,5] [] 2 rfl rfl ?_;cases h;exact .rv rfl rfl ⟨rfl,rfl⟩ zw
 refine .sk<|.pr [0,1] rfl<|.seq<|.a 1 rfl<|.bd h fun r2 hr2 h=>.cv [1] (zEo hr2) zVU rfl<|.b [0,1,13] rfl<|.cb h rfl (fun h=>?_) (fun h=>?_)
 ·refine .abf [4,5] [] 2 rfl rfl ?_;cases h;exact .rv rfl rfl ⟨rfl,rfl⟩ zw
 refine .sk<|.pr [0,1] rfl<|.seq<|.ab [0,14,15,16] rfl<|.bd h fun o1 hl1 h=>.cutJ 2 (fun (o2:Unit) (e2:Unit)=>[]) (fun o2 e2=>[]) rfl rfl (fun o2=>o1= .inr o2) ?_ ?_
 ·refine .block<|.loopQ hl1 0 (fun (s1:Int) (e1:Unit)=>[0,14,15, .s 16 (.int .i64 s1)]) (fun s1 e1=>[]) rfl rfl () (zb rfl) (fun _ w=>w) ?_;rintro s1 e1 st1 hm1 hd1 h1;refine .ae rfl<|.seq<|.cb h1 rfl (fun h1=>?_) (fun h1=>?_)
  ·refine .sk<|.pr [0,14,15,16] rfl<|.seq<|.block<|.a 1 rfl<|.bd h1 fun x1 hx1 h1=>.ix1 hx1 1 rfl fun b1 ob1=>.ld ob1 0 0 rfl<|.alloc rfl rfl fun g1=>.p rfl rfl<|.sb 0 0 rfl<|.bf [0,6,7,14,15,16] [0] 1 rfl rfl<|.a 1 rfl<|.lb 0 0 rfl<|.bd h1 fun r3 hr3 h1=>.cv [1] (zBd hr3) zUW rfl<|.bf [0,6,14,15,16,24] [] 1 rfl rfl<|.cb h1 rfl (fun h1=>?_) (fun h1=>?_)
   ·refine .abf [4,5] [] 2 rfl rfl ?_;cases h1;cases hd1 _ rfl
    have h:some _=some _:=h;cases h;exact .rv rfl rfl ⟨rfl,rfl⟩ zw
   refine .skip<|.blkN<|.thenN<|.pr [0,14,15,16] rfl<|.region ?_;cases h1;exact .be rfl<|.ag () hm1 rfl zw
  refine .xq rfl ?_;cases h1;cases hd1 _ rfl
  exact .thenN<|.hereI () () rfl trivial (zl [] 2 rfl)
 rintro o2 e2 ho;subst ho;have h:=unR h;refine .ae rfl ?_;cases h;exact .rv rfl rfl ⟨rfl,rfl⟩ zw
theorem zRg:Ent Tryz.prog 63:=en Tryz.func63 (by kernel_rfl)
noncomputable def xD (s_p0:(List zT)):Option (List zT):=
 bnd (app 80 ([]) s_p0) fun l1=>some l1
theorem uC {s_p0 A1 c1 r} (h:xD s_p0=some r):
    Fun Tryz.prog 63 [.slice A1 s_p0.length c1] [.ro (SlL zR A1 c1 s_p0)] (fun v F=>∃ A2 c2,v= .slice A2 r.length c2∧F= [.res (zM zR 123 A2 c2 r)]):=by
 unfold xD at h
 refine Fun.intro Tryz.func63 rfl rfl rfl fun w R=>?_
 rcases A1 with _ | ad
 ·refine .fact (φ:=s_p0= []) (fun w hf=>(hf.ro (r:=SlL zR none c1 s_p0) (.head _)).2.2.1 rfl) fun hs=>?_;subst hs;have h:(some ([]):Option (List zT))=some r:=by simpa [app,bnd] using h
  refine .ab [0] rfl<|.seq<|.ab [0,4] rfl<|.condT rfl<|.abf [2] [] 1 rfl rfl<|.asrt (fun _ w=>w.nilL zR 123) ?_;cases h;exact .rv rfl rfl ⟨none,0,rfl,rfl⟩ zw
 refine .ab [0] rfl<|.seq<|.ab [0,4] rfl<|.condF rfl<|.sk<|.pr [0] rfl<|.seq<|.region<|.bS rfl fun g1=>.p rfl rfl<|.asrt (fun _ w=>w.litL (E:=zR) (e:=123) [] rfl rfl)<|.bd h fun l1 hl1 h=>.app (E:=zR) hl1 rfl rfl rfl .z rfl rfl rfl rfl rfl rfl rfl rfl (fB (.tail _ (.head _))) rfl rfl fun A2 c2=>.bf [2] [0] 1 rfl rfl ?_;cases h;exact .rv rfl rfl ⟨A2,c2,rfl,rfl⟩ zw
theorem zUS:Ent Tryz.prog 64:=en Tryz.func64 (by kernel_rfl)
noncomputable def pM (d_p0:zB):Option zB:=
 bnd (zP d_p0.Slots.e0.Image.Data) fun r1=>bnd (zP d_p0.Slots.e1.Image.Data) fun r2=>some (⟨d_p0.Name,(⟨(⟨(⟨d_p0.Slots.e0.Image.Name,d_p0.Slots.e0.Image.Version,r1⟩:zH),d_p0.Slots.e0.Sum⟩:yB),(⟨(⟨d_p0.Slots.e1.Image.Name,d_p0.Slots.e1.Image.Version,r2⟩:zH),d_p0.Slots.e1.Sum⟩:yB)⟩:(rA yB)),d_p0.Active,d_p0.Running,d_p0.Trial⟩:zB)
theorem bL {d_p0 A1 c1 A2 c2 r} (h:pM d_p0=some r):
    Fun Tryz.prog 64 [.agg (zN d_p0 A1 c1 A2 c2).toArray] [.ro (SlL eu8 A1 c1 d_p0.Slots.e0.Image.Data), .ro (SlL eu8 A2 c2 d_p0.Slots.e1.Image.Data)] (fun v F=>∃ A3 c3 A4 c4,v= .agg (zN r A3 c3 A4 c4).toArray∧F= [.ro (SlL eu8 A3 c3 r.Slots.e0.Image.Data), .ro (SlL eu8 A4 c4 r.Slots.e1.Image.Data)]):=by
 refine Fun.intro Tryz.func64 rfl rfl rfl fun w R=>?_;refine .seq<|.region<|.box rfl rfl fun g1=>.alloc rfl rfl fun g2=>.b [1,2] rfl<|.seq<|.ae rfl<|.block<|.rounds 9<|.round<|.ae rfl<|.seq<|.condT rfl<|.sk<|.pr [1,2,4] rfl<|.seq<|.block<|.ab [1,2,3,4] rfl<|.region<|.n 6 rfl<|.lb 5 1 rfl<|.bd h fun r1 hr1 h=>.cr 5 [2] [] 0 (yM hr1) bO rfl fun A3 c3=>.n 4 rfl<|.sb 5 2 rfl<|.done<|.blkN<|.thenN<|.pf [1,2,4] [0,0,0] 1 rfl rfl<|.region<|.be rfl<|.round<|.pr [1,2,4] rfl<|.ae rfl<|.seq<|.condT rfl<|.sk<|.pr [1,2,4] rfl<|.seq<|.block<|.ab [1,2,3,4] rfl<|.region<|.n 6 rfl<|.lb 11 0 rfl<|.bd h fun r2 hr2 h=>.cr 5 [3] [] 0 (yM hr2) bO rfl fun A4 c4=>.n 4 rfl<|.sb 11 1 rfl<|.done<|.blkN<|.thenN<|.pf [1,2,4] [0,0,0,0] 1 rfl rfl<|.region<|.be rfl<|.round<|.pr [1,2,4] rfl<|.ae rfl<|.seq<|.condF rfl<|.xq rfl<|.thenN<|.pr [1,2] rfl<|.seq<|.region<|.lb 0 0 rfl<|.sb 0 3 rfl<|.bf [2] [0] 1 rfl rfl<|.asrt (fun _ w=>(w.sl [2] 0 rfl).meltL)<|.asrt (fun _ w=>(w.sl [2] 0 rfl).meltL) ?_;cases h;exact .rt rfl Tryz.results64 (.cell rfl (.tail _ (.tail _ (.head _))) rfl .nil) rfl ⟨A3,c3,A4,c4,rfl,rfl⟩ (zk 2 3 [1,0] [] 0 rfl)
theorem zFI:Ent Tryz.prog 94:=en Tryz.func94 (by kernel_rfl)
noncomputable def uX (d_p0:zB):Option zB:=
 bnd (pJ d_p0.Slots.e0.Image) fun r1=>bnd (pJ d_p0.Slots.e1.Image) fun r2=>some (⟨d_p0.Name,(⟨(⟨r1,d_p0.Slots.e0.Sum⟩:yB),(⟨r2,d_p0.Slots.e1.Sum⟩:yB)⟩:(rA yB)),d_p0.Active,d_p0.Running,d_p0.Trial⟩:zB)
theorem pV {d_p0 A1 c1 A2 c2 r} (h:uX d_p0=some r):
    Fun Tryz.prog 94 [.agg (zN d_p0 A1 c1 A2 c2).toArray] [.ro (SlL eu8 A1 c1 d_p0.Slots.e0.Image.Data), .ro (SlL eu8 A2 c2 d_p0.Slots.e1.Image.Data)] (fun v F=>∃ A3 c3 A4 c4,v= .agg (zN r A3 c3 A4 c4).toArray∧F= [.ro (SlL eu8 A3 c3 r.Slots.e0.Image.Data), .ro (SlL eu8 A4 c4 r.Slots.e1.Image.Data)]):=by
 refine Fun.intro Tryz.func94 rfl rfl rfl fun w R=>?_;refine .seq<|.region<|.box rfl rfl fun g1=>.alloc rfl rfl fun g2=>.b [1,2] rfl<|.seq<|.ae rfl<|.block<|.rounds 9<|.round<|.ae rfl<|.seq<|.condT rfl<|.sk<|.pr [1,2,4] rfl<|.seq<|.block<|.ab [1,2,3,4] rfl<|.region<|.n 5 rfl<|.lb 1 1 rfl<|.bd h fun r1 hr1 h=>.cr 5 [2] [] 0 (gH hr1) zCZ rfl fun A3 c3=>.n 3 rfl<|.sb 1 2 rfl<|.done<|.blkN<|.thenN<|.pf [1,2,4] [0,0,0] 1 rfl rfl<|.region<|.be rfl<|.round<|.pr [1,2,4] rfl<|.ae rfl<|.seq<|.condT rfl<|.sk<|.pr [1,2,4] rfl<|.seq<|.block<|.ab [1,2,3,4] rfl<|.region<|.n 5 rfl<|.lb 7 0 rfl<|.bd h fun r2 hr2 h=>.cr 5 [3] [] 0 (gH hr2) zCZ rfl fun A4 c4=>.n 3 rfl<|.sb 7 1 rfl<|.done<|.blkN<|.thenN<|.pf [1,2,4] [0,0,0,0] 1 rfl rfl<|.region<|.be rfl<|.round<|.pr [1,2,4] rfl<|.ae rfl<|.seq<|.condF rfl<|.xq rfl<|.thenN<|.pr [1,2] rfl<|.seq<|.region<|.lb 0 0 rfl<|.sb 0 3 rfl<|.bf [2] [0] 1 rfl rfl ?_;cases h;exact .rt rfl Tryz.results94 (.cell rfl (.head _) rfl .nil) rfl ⟨A3,c3,A4,c4,rfl,rfl⟩ (zk 2 3 [2,1] [] 0 rfl)
theorem zHy:Ent Tryz.prog 35:=en Tryz.func35 (by kernel_rfl)
noncomputable def oO (d_p0:zB):Option zB:=
 bnd (uY d_p0) fun r1=>bif !r1 then (some (⟨⟨#[]⟩,(⟨(⟨(⟨⟨#[]⟩,(⟨0,0,0⟩:zK), []⟩:zH),0⟩:yB),(⟨(⟨⟨#[]⟩,(⟨0,0,0⟩:zK), []⟩:zH),0⟩:yB)⟩:(rA yB)),0,0,false⟩:zB)) else (bnd (uX d_p0) fun r2=>bif r2.Trial then (some (⟨r2.Name,r2.Slots,r2.Active,IntKind.wrap .i64 (1 - r2.Active),false⟩:zB)) else (some (⟨r2.Name,r2.Slots,r2.Active,r2.Active,r2.Trial⟩:zB)))
theorem jW {d_p0 A1 c1 A2 c2 r} (h:oO d_p0=some r):
    Fun Tryz.prog 35 [.agg (zN d_p0 A1 c1 A2 c2).toArray] [.ro (SlL eu8 A1 c1 d_p0.Slots.e0.Image.Data), .ro (SlL eu8 A2 c2 d_p0.Slots.e1.Image.Data)] (fun v F=>∃ A3 c3 A4 c4,v= .agg (zN r A3 c3 A4 c4).toArray∧F= [.ro (SlL eu8 A3 c3 r.Slots.e0.Image.Data), .ro (SlL eu8 A4 c4 r.Slots.e1.Image.Data)]):=by
 refine Fun.intro Tryz.func35 rfl rfl rfl fun w R=>?_;refine .seq<|.region<|.box rfl rfl fun g1=>.alloc rfl rfl fun g2=>.b [1,2] rfl<|.seq<|.seq<|.region<|.lb 0 1 rfl<|.bd h fun r1 hr1 h=>.cv [2,3] (pB hr1) zFH rfl<|.b [1,2,6] rfl<|.cb h rfl (fun h=>?_) (fun h=>?_)
 ·refine .a 1 rfl<|.sb 0 0 rfl<|.bf [2] [0] 3 rfl rfl<|.asrt (fun _ w=>w.nilSl (cod eu8))<|.asrt (fun _ w=>w.nilSl (cod eu8)) ?_;cases h;exact .rt rfl Tryz.results35 (.cell rfl (.tail _ (.tail _ (.head _))) rfl .nil) rfl ⟨none,0,none,0,rfl,rfl⟩ (zk 2 3 [0,0] [] 0 rfl)
 refine .sk<|.pr [1,2] rfl<|.seq<|.region<|.lb 0 1 rfl<|.bd h fun r2 hr2 h=>.ct 6 [2,3] [] 0 (pV hr2) zFI rfl fun A3 c3 A4 c4=>.alloc rfl rfl fun g3=>.sb 0 0 rfl<|.bf [2,3] [0,0,0,0] 3 rfl rfl<|.a 1 rfl<|.lb 13 0 rfl<|.p rfl rfl<|.sb 14 0 rfl<|.b [2,3] rfl<|.seq<|.a 1 rfl<|.lb 15 0 rfl<|.b [2,3,14] rfl<|.cb h rfl (fun h=>?_) (fun h=>?_)
 ·refine .region<|.p rfl rfl<|.lb 13 0 rfl<|.n 2 rfl<|.sb 14 0 rfl<|.p rfl rfl<|.sb 15 0 rfl<|.b [2,3] rfl<|.seq<|.region<|.lb 0 0 rfl<|.sb 0 3 rfl<|.bf [2] [0] 1 rfl rfl ?_;cases h;exact .rt rfl Tryz.results35 (.cell rfl (.head _) rfl .nil) rfl ⟨A3,c3,A4,c4,rfl,rfl⟩ (zk 2 3 [1,2] [] 0 rfl)
 refine .sk<|.pr [2,3] rfl<|.seq<|.region<|.lb 0 0 rfl<|.sb 0 3 rfl<|.bf [2] [0] 1 rfl rfl ?_;cases h;exact .rt rfl Tryz.results35 (.cell rfl (.head _) rfl .nil) rfl ⟨A3,c3,A4,c4,rfl,rfl⟩ (zk 2 3 [1,2] [] 0 rfl)
theorem zXR:Ent Tryz.prog 65:=en Tryz.func65 (by kernel_rfl)
noncomputable def tA (s_p0:zC) (key:Int):Option ((List Int) × Bool):=
 bnd (zP ((vM (yF .u8).eq (s_p0.all.getD []) key).getD [])) fun r1=>some (r1,(vM (yF .u8).eq (s_p0.all.getD []) key).isSome)
theorem zAn {s_p0 key M1 gb1 gb2 r} (h:tA s_p0 key=some r):
    Fun Tryz.prog 65 [.pointer (some ⟨gb1,0,none⟩), .int .u8 key] [.res (Box gb1 135 (zO s_p0 gb2 M1)), .res (yO (yF .u8) (cod eu8) M1 s_p0.all)] (fun v F=>∃ A1 c1,v= .tuple #[.slice A1 r.1.length c1, .bool r.2]∧F= [.res (Box gb1 135 (zO s_p0 gb2 M1)), .res (yO (yF .u8) (cod eu8) M1 s_p0.all), .res (zM eu8 5 A1 c1 r.1)]):=by
 refine Fun.intro Tryz.func65 rfl rfl rfl fun w R=>?_;refine .ab [0,1] rfl<|.a 3 rfl<|.lb 4 0 rfl<|.p rfl rfl<|.lookupV (K:=(yF .u8)) (E:=(cod eu8)) key rfl rfl rfl (.tail _ (.head _)) rfl rfl rfl rfl rfl rfl fun A1 c1=>.b [6,7] rfl<|.a 1 rfl<|.bd h fun r1 hr1 h=>.cr 4 [0] [] 0 (yM hr1) bO rfl fun A2 c2=>.bf [4,5] [0] 1 rfl rfl ?_;cases h;exact .rv rfl rfl ⟨A2,c2,rfl,rfl⟩ (zl [1,1] 0 rfl)
theorem zWo:Ent Tryz.prog 224:=en Tryz.func224 (by kernel_rfl)
noncomputable def tM (s_p0:(List Int)) (v_p1:Int):Option Int:=
 bnd (yG (τ:=Int ⊕ Unit) (fun (s1:Int)=>bif decide (s1<(s_p0.length:Int)) then (bnd (elt s_p0 s1) fun x1=>bif (v_p1==x1) then (some (.done (.inl s1))) else (some (.next (IntKind.wrap .i64 (s1+1))))) else (some (.done (.inr ())))) 0) fun o1=>wT o1 fun o2=>some (-1)
theorem dL {s_p0 v_p1 A1 c1 r} (h:tM s_p0 v_p1=some r):
    Fun Tryz.prog 224 [.slice A1 s_p0.length c1, .int .i64 v_p1] [.ro (SlL yH A1 c1 s_p0)] (Val (.int .i64 r)):=by
 refine Fun.intro Tryz.func224 rfl rfl rfl fun w R=>?_;refine .ab [0,1] rfl<|.seq<|.ab [0,1,7,8] rfl<|.bd h fun o1 hl1 h=>.cutJ 1 (fun (o2:Unit) (e2:Unit)=>[]) (fun o2 e2=>[]) rfl rfl (fun o2=>o1= .inr o2) ?_ ?_
 ·refine .block<|.loopQ hl1 0 (fun (s1:Int) (e1:Unit)=>[0,1,7, .s 8 (.int .i64 s1)]) (fun s1 e1=>[]) rfl rfl () (zb rfl) (fun _ w=>w) ?_;rintro s1 e1 st1 hm1 hd1 h1;refine .ae rfl<|.seq<|.cb h1 rfl (fun h1=>?_) (fun h1=>?_)
  ·refine .sk<|.pr [0,1,7,8] rfl<|.seq<|.block<|.ab [0,1,5,7,8] rfl<|.a 3 rfl<|.bd h1 fun x1 hx1 h1=>.ix1 hx1 0 rfl fun b1 ob1=>.ld ob1 0 0 rfl<|.bf [0,1,5,7,8,16] [] 1 rfl rfl<|.cb h1 rfl (fun h1=>?_) (fun h1=>?_)
   ·refine .abf [4] [] 1 rfl rfl ?_;cases h1;cases hd1 _ rfl
    have h:some _=some _:=h;cases h;exact .rv rfl rfl ⟨rfl,rfl⟩ zw
   refine .skip<|.blkN<|.thenN<|.pr [0,1,7,8] rfl<|.region ?_;cases h1;exact .be rfl<|.ag () hm1 rfl zw
  refine .xq rfl ?_;cases h1;cases hd1 _ rfl
  exact .thenN<|.hereI () () rfl trivial (zl [] 1 rfl)
 rintro o2 e2 ho;subst ho;have h:=unR h;refine .ae rfl ?_;cases h;exact .rv rfl rfl ⟨rfl,rfl⟩ zw
theorem zWQ:Ent Tryz.prog 144:=en Tryz.func144 (by kernel_rfl)
noncomputable def uJ (s_p0:(List Int)) (v_p1:Int):Option Bool:=
 bnd (tM s_p0 v_p1) fun r1=>some (decide (r1≥0))
theorem gV {s_p0 v_p1 A1 c1 r} (h:uJ s_p0 v_p1=some r):
    Fun Tryz.prog 144 [.slice A1 s_p0.length c1, .int .i64 v_p1] [.ro (SlL yH A1 c1 s_p0)] (Val (.bool r)):=by
 refine Fun.intro Tryz.func144 rfl rfl rfl fun w R=>?_;refine .ab [0,1] rfl<|.a 2 rfl<|.bd h fun r1 hr1 h=>.cv [0] (dL hr1) zWo rfl<|.bf [4] [] 1 rfl rfl ?_;cases h;exact .rv rfl rfl ⟨rfl,rfl⟩ zw
theorem zXH:Ent Tryz.prog 66:=en Tryz.func66 (by kernel_rfl)
noncomputable def uL (a_p0:zD) (journal:(List Int)):Option (zD × Bool):=
 bif decide ((journal.length:Int)<2) then (some (a_p0,false)) else (bnd (elt journal 0) fun x1=>bnd (elt journal 1) fun x2=>bif !((IntKind.wrap .i64 x1)==2||((IntKind.wrap .i64 x1)==3||false)) then (some ((⟨a_p0.store,a_p0.devices,a_p0.needs,IntKind.wrap .i64 x1,a_p0.load,x2,a_p0.order⟩:zD),false)) else (bnd (sub journal 2 (journal.length:Int)) fun l1=>bnd (yG (τ:=(zD × Bool) ⊕ List Int) (fun (s1:Int × List Int)=>bif decide (s1.1<(l1.length:Int)) then (bnd (elt l1 s1.1) fun x3=>bnd ((bif decide ((IntKind.wrap .i64 x3)≥(a_p0.devices.length:Int)) then (some true) else (bnd (uJ s1.2 (IntKind.wrap .i64 x3)) fun r1=>some r1):Option Bool)) fun o3=>bif o3 then (some (.done (.inl ((⟨a_p0.store,a_p0.devices,a_p0.needs,IntKind.wrap .i64 x1,a_p0.load,x2,s1.2⟩:zD),false)))) else (bnd (app 8 s1.2 [IntKind.wrap .i64 x3]) fun l2=>some (.next (IntKind.wrap .i64 (s1.1+1),l2)))) else (some (.done (.inr s1.2)))) (0,a_p0.order)) fun o1=>wT o1 fun o2=>some ((⟨a_p0.store,a_p0.devices,a_p0.needs,IntKind.wrap .i64 x1,a_p0.load,x2,o2⟩:zD),true)))
theorem zAP {a_p0 journal A1 c1 A2 c2 A3 c3 A4 c4 A5 c5 A6 c6 gb1 gb2 r} (h:uL a_p0 journal=some r):
    Fun Tryz.prog 66 [.pointer (some ⟨gb1,0,none⟩), .slice A6 journal.length c6] [.ro (SlL zR A2 c2 a_p0.needs), .ro (SlL yU A3 c3 a_p0.load.Have), .ro (SlL eu8 A4 c4 a_p0.load.Data), .ro (SlL eu8 A6 c6 journal), .ro (zGA 0 [(2,some 315),(3,some 316)]), .res (Box gb1 144 (zI a_p0 gb2 A1 c1 A2 c2 A3 c3 A4 c4 A5 c5)), .res (xK (yL zE) 64 A1 c1 a_p0.devices), .res (zM yH 3 A5 c5 a_p0.order)] (fun v F=>∃ A7 c7 A8 c8 A9 c9 A10 c10 A11 c11,v= .bool r.2∧F= [.ro (SlL zR A8 c8 r.1.needs), .ro (SlL yU A9 c9 r.1.load.Have), .ro (SlL eu8 A10 c10 r.1.load.Data), .res (Box gb1 144 (zI r.1 gb2 A7 c7 A8 c8 A9 c9 A10 c10 A11 c11)), .res (xK (yL zE) 64 A7 c7 r.1.devices), .res (zM yH 3 A11 c11 r.1.order)]):=by
 refine Fun.intro Tryz.func66 rfl rfl rfl fun w R=>?_;refine .ab [0,1] rfl<|.seq<|.ab [0,1,10] rfl<|.cb h rfl (fun h=>?_) (fun h=>?_)
 ·refine .abf [4] [0,0,0] 1 rfl rfl ?_;cases h;exact .rv rfl rfl ⟨A1,c1,A2,c2,A3,c3,A4,c4,A5,c5,rfl,rfl⟩ (zk 6 4 [3,4,5] [4,4,4] 0 rfl)
 refine .sk<|.pr [0,1] rfl<|.seq<|.regionX (iN [0,4,8,13,17,20,24,29,33,36,40,47,48,52,59] .nil) _ mixed (by kernel_rfl) (zl [0,0,0,0,0] 1 rfl)<|.yn 3 rfl<|.bd h fun x1 hx1 h=>.openA (zm 3 rfl) hx1 fun b1 ob1 hqb1=>.asrt (fun _ w=>Sat.addC hqb1 (zm 3 rfl) hx1 w) ?_;have hc1:=fun w h=>Sat.addC hqb1 (zm 3 rfl) hx1 ((fun (w:World) (h:Sat (.ro (SlL zR A2 c2 a_p0.needs):: .ro (SlL yU A3 c3 a_p0.load.Have):: .ro (SlL eu8 A4 c4 a_p0.load.Data):: .ro (SlL eu8 A6 c6 journal):: .ro (zGA 0 [(2,some 315),(3,some 316)]):: .res (xK (yL zE) 64 A1 c1 a_p0.devices):: .res (zM yH 3 A5 c5 a_p0.order)::R) w)=>h) w h);refine .xfx (Rd.ixL (E:=eu8) hqb1 hx1 rfl rfl rfl rfl rfl rfl rfl) rfl<|.xfx (Rd.load ob1 0 rfl (.head _) rfl rfl) rfl<|.yn 2 rfl<|.bd h fun x2 hx2 h=>.openA (zm 4 rfl) hx2 fun b2 ob2 hqb2=>.asrt (fun _ w=>Sat.addC hqb2 (zm 4 rfl) hx2 w) ?_;have hc2:=fun w h=>Sat.addC hqb2 (zm 4 rfl) hx2 (hc1 w h);refine .xfx (Rd.ixL (E:=eu8) hqb2 hx2 rfl rfl rfl rfl rfl rfl rfl) rfl<|.xfx (Rd.load ob2 0 rfl (.head _) rfl rfl) rfl<|.yn 2 rfl<|.xef<|.sb 3 7 rfl<|.xk (zl [] 3 rfl)<|.yn 2 rfl<|.xef<|.sb 8 0 rfl<|.xk (zl [] 3 rfl)<|.xdone<|.thenN<|.pf [0,1] [0] 2 rfl rfl<|.seq<|.seq<|.regionF mixed (by kernel_rfl)<|.openF (zm 5 rfl) fun gm1=>.ld 0 0 0 rfl<|.n 3 rfl<|.lb 3 2 rfl<|.lookupF rfl rfl rfl (.tail _ (.head _)) rfl rfl rfl rfl rfl (by rfl)<|.nilF (r:=!((IntKind.wrap .i64 x1)==2||((IntKind.wrap .i64 x1)==3||false))) rfl rfl rfl (by kernel_rfl) rfl (.inl ⟨rfl,rfl⟩)<|.beq rfl<|.pf [0,1,30] [] 2 rfl rfl<|.cb h rfl (fun h=>?_) (fun h=>?_)
 ·refine .abf [4] [0,0,0,0] 1 rfl rfl ?_;cases h;exact .rv rfl rfl ⟨A1,c1,A2,c2,A3,c3,A4,c4,A5,c5,rfl,rfl⟩ (zk 6 4 [3,4,5] [0,4,4] 0 rfl)
 refine .sk<|.pr [0,1] rfl<|.seq<|.a 1 rfl<|.bd h fun l1 hl1 h=>.sub (E:=(cod eu8)) rfl rfl (zm 4 rfl) rfl rfl rfl rfl rfl rfl rfl hl1 fun A7 c7=>.bf [0,32,33,34] [0,0,0,0,0] 1 rfl rfl<|.bd h fun o1 hl1 h=>.cutJ 8 (fun (o2:List Int) (e2:Option Addr × Nat)=>[]) (fun o2 e2=>[.res (zM yH 3 e2.1 e2.2 o2), .res (Box gb1 144 [.pointer (zBZ a_p0.store gb2), .slice A1 a_p0.devices.length c1, .slice A2 a_p0.needs.length c2, .int .i64 (IntKind.wrap .i64 x1), .int .i64 a_p0.load.Size, .int .i64 a_p0.load.Part, .slice A3 a_p0.load.Have.length c3, .slice A4 a_p0.load.Data.length c4, .int .u8 x2, .slice e2.1 o2.length e2.2]),2,3,4,5,6]) rfl rfl (fun o2=>o1= .inr o2) ?_ ?_
 ·refine .block<|.loopQ hl1 8 (fun (s1:Int × List Int) (e1:Option Addr × Nat)=>[0,32,33, .s 34 (.int .i64 s1.1)]) (fun s1 e1=>[.res (zM yH 3 e1.1 e1.2 s1.2),0, .res (Box gb1 144 [.pointer (zBZ a_p0.store gb2), .slice A1 a_p0.devices.length c1, .slice A2 a_p0.needs.length c2, .int .i64 (IntKind.wrap .i64 x1), .int .i64 a_p0.load.Size, .int .i64 a_p0.load.Part, .slice A3 a_p0.load.Have.length c3, .slice A4 a_p0.load.Data.length c4, .int .u8 x2, .slice e1.1 s1.2.length e1.2]),2,3,4,5,6]) rfl rfl (A5,c5) (zb rfl) (zl [7] 0 rfl) ?_;rintro s1 ⟨A8,c8⟩ st1 hm1 hd1 h1;refine .ae rfl<|.seq<|.cb h1 rfl (fun h1=>?_) (fun h1=>?_)
  ·refine .sk<|.pr [0,32,33,34] rfl<|.seq<|.block<|.seq<|.region<|.bd h1 fun x3 hx3 h1=>.ix1 hx3 1 rfl fun b3 ob3=>.ld ob3 0 0 rfl<|.bf [0,6,32,33,34] [] 1 rfl rfl<|.seq<|.ab [0,6,7,32,33,34] rfl<|.seq<|.bd h1 fun o3 hj1 h1=>.cu 0 [0,6,32,33,34, .s 54 (.bool o3)] [] rfl rfl ?_ ?_
   ·refine .region<|.n 4 rfl<|.lb 1 2 rfl<|.n 3 rfl<|.gs 47 hj1 rfl (fun hj1=>?_) (fun hj1=>?_)
    ·cases hj1;exact .be rfl<|.hU rfl zw
    refine .n 3 rfl<|.gOn rfl rfl<|.lb 9 2 rfl<|.n 1 rfl<|.gOn rfl rfl<|.bd hj1 fun r1 hr1 hj1=>.callL (gV hr1) zWQ rfl rfl rfl rfl (gX.own (.head _) gX.nil) (fun _ _ h=>by rw [h.2]; exact True.intro) ?_;rintro _ _ ⟨rfl,rfl⟩;refine .nm 8 rfl ?_;cases hj1;exact .be rfl<|.hU rfl zw
   refine .cb h1 rfl (fun h1=>?_) (fun h1=>?_)
   ·refine .abf [4] [0] 1 rfl rfl ?_;cases h1;cases hd1 _ rfl
    have h:some _=some _:=h;cases h;exact .rv rfl rfl ⟨A1,c1,A2,c2,A3,c3,A4,c4,A8,c8,rfl,rfl⟩ (zk 6 4 [3,4,5] [1,5] 0 rfl)
   refine .sk<|.pr [0,6,32,33,34] rfl<|.region<|.n 4 rfl<|.lb 9 2 rfl<|.n 2 rfl<|.bS rfl fun g1=>.bd h1 fun l2 hl2 h1=>.app (E:=yH) hl2 rfl rfl rfl (.s .z) rfl rfl rfl rfl rfl rfl rfl rfl (eO (.head _) rfl rfl) rfl rfl fun A10 c10=>.n 2 rfl<|.sb 9 3 rfl<|.done<|.blkN<|.thenN<|.pf [0,32,33,34] [0,0] 1 rfl rfl<|.region ?_;cases h1;exact .be rfl<|.ag (A10,c10) hm1 rfl (zl [1,1] 0 rfl)
  refine .xq rfl ?_;cases h1;cases hd1 _ rfl
  exact .thenN<|.hereI s1.2 (A8,c8) rfl trivial (zl [0] 1 rfl)
 rintro o2 ⟨A9,c9⟩ ho;subst ho;have h:=unR h;refine .ae rfl ?_;cases h;exact .rv rfl rfl ⟨A1,c1,A2,c2,A3,c3,A4,c4,A9,c9,rfl,rfl⟩ (zk 6 4 [3,4,5] [1,5] 0 rfl)
noncomputable def iS (i_p0:zH):Option zH:=
 bnd (zP i_p0.Data) fun r1=>some (⟨i_p0.Name,i_p0.Version,r1⟩:zH)
theorem bK {i_p0 A1 c1 r} (h:iS i_p0=some r):
    Fun Tryz.prog 130 [.agg (xJ i_p0 A1 c1).toArray] [.ro (SlL eu8 A1 c1 i_p0.Data)] (fun v F=>∃ A2 c2,v= .agg (xJ r A2 c2).toArray∧F= [.res (zM eu8 5 A2 c2 r.Data)]):=by
 refine Fun.intro Tryz.func130 rfl rfl rfl fun w R=>?_;refine .seq<|.region<|.box rfl rfl fun g1=>.alloc rfl rfl fun g2=>.b [1,2] rfl<|.a 1 rfl<|.lb 4 1 rfl<|.bd h fun r1 hr1 h=>.cr 4 [2] [] 0 (yM hr1) bO rfl fun A2 c2=>.p rfl rfl<|.sb 4 2 rfl<|.bf [1,2] [0,0,0] 1 rfl rfl<|.seq<|.region<|.lb 0 0 rfl<|.sb 0 2 rfl<|.bf [2] [0] 1 rfl rfl ?_;cases h;exact .rt rfl Tryz.results130 (.cell rfl (.head _) rfl .nil) rfl ⟨A2,c2,rfl,rfl⟩ (zl [] 1 rfl)
noncomputable def dK (d_p0:zB):Option zB:=
 bnd (iS d_p0.Slots.e0.Image) fun r1=>bnd (iS d_p0.Slots.e1.Image) fun r2=>some (⟨d_p0.Name,(⟨(⟨r1,d_p0.Slots.e0.Sum⟩:yB),(⟨r2,d_p0.Slots.e1.Sum⟩:yB)⟩:(rA yB)),d_p0.Active,d_p0.Running,d_p0.Trial⟩:zB)
theorem zDh {d_p0 A1 c1 A2 c2 r} (h:dK d_p0=some r):
    Fun Tryz.prog 94 [.agg (zN d_p0 A1 c1 A2 c2).toArray] [.ro (SlL eu8 A1 c1 d_p0.Slots.e0.Image.Data), .ro (SlL eu8 A2 c2 d_p0.Slots.e1.Image.Data)] (fun v F=>∃ A3 c3 A4 c4,v= .agg (zN r A3 c3 A4 c4).toArray∧F= [.res (zM eu8 5 A3 c3 r.Slots.e0.Image.Data), .res (zM eu8 5 A4 c4 r.Slots.e1.Image.Data)]):=by
 refine Fun.intro Tryz.func94 rfl rfl rfl fun w R=>?_;refine .seq<|.region<|.box rfl rfl fun g1=>.alloc rfl rfl fun g2=>.b [1,2] rfl<|.seq<|.ae rfl<|.block<|.rounds 9<|.round<|.ae rfl<|.seq<|.condT rfl<|.sk<|.pr [1,2,4] rfl<|.seq<|.block<|.ab [1,2,3,4] rfl<|.region<|.n 5 rfl<|.lb 1 1 rfl<|.bd h fun r1 hr1 h=>.cr 5 [2] [] 0 (bK hr1) zCZ rfl fun A3 c3=>.n 3 rfl<|.sb 1 2 rfl<|.done<|.blkN<|.thenN<|.pf [1,2,4] [0,0,0] 1 rfl rfl<|.region<|.be rfl<|.round<|.pr [1,2,4] rfl<|.ae rfl<|.seq<|.condT rfl<|.sk<|.pr [1,2,4] rfl<|.seq<|.block<|.ab [1,2,3,4] rfl<|.region<|.n 5 rfl<|.lb 7 0 rfl<|.bd h fun r2 hr2 h=>.cr 5 [3] [] 0 (bK hr2) zCZ rfl fun A4 c4=>.n 3 rfl<|.sb 7 1 rfl<|.done<|.blkN<|.thenN<|.pf [1,2,4] [0,0,0,0] 1 rfl rfl<|.region<|.be rfl<|.round<|.pr [1,2,4] rfl<|.ae rfl<|.seq<|.condF rfl<|.xq rfl<|.thenN<|.pr [1,2] rfl<|.seq<|.region<|.lb 0 0 rfl<|.sb 0 3 rfl<|.bf [2] [0] 1 rfl rfl ?_;cases h;exact .rt rfl Tryz.results94 (.cell rfl (.head _) rfl .nil) rfl ⟨A3,c3,A4,c4,rfl,rfl⟩ (zl [2] 1 rfl)
noncomputable def lR (d_p0:zB):Option zB:=
 bnd (uY d_p0) fun r1=>bif !r1 then (some (⟨⟨#[]⟩,(⟨(⟨(⟨⟨#[]⟩,(⟨0,0,0⟩:zK), []⟩:zH),0⟩:yB),(⟨(⟨⟨#[]⟩,(⟨0,0,0⟩:zK), []⟩:zH),0⟩:yB)⟩:(rA yB)),0,0,false⟩:zB)) else (bnd (dK d_p0) fun r2=>bif r2.Trial then (some (⟨r2.Name,r2.Slots,r2.Active,IntKind.wrap .i64 (1 - r2.Active),false⟩:zB)) else (some (⟨r2.Name,r2.Slots,r2.Active,r2.Active,r2.Trial⟩:zB)))
theorem zFz {d_p0 A1 c1 A2 c2 r} (h:lR d_p0=some r):
    Fun Tryz.prog 35 [.agg (zN d_p0 A1 c1 A2 c2).toArray] [.ro (SlL eu8 A1 c1 d_p0.Slots.e0.Image.Data), .ro (SlL eu8 A2 c2 d_p0.Slots.e1.Image.Data)] (fun v F=>∃ A3 c3 A4 c4,v= .agg (zN r A3 c3 A4 c4).toArray∧F= [.res (zM eu8 5 A3 c3 r.Slots.e0.Image.Data), .res (zM eu8 5 A4 c4 r.Slots.e1.Image.Data)]):=by
 refine Fun.intro Tryz.func35 rfl rfl rfl fun w R=>?_;refine .seq<|.region<|.box rfl rfl fun g1=>.alloc rfl rfl fun g2=>.b [1,2] rfl<|.seq<|.seq<|.region<|.lb 0 1 rfl<|.bd h fun r1 hr1 h=>.cv [2,3] (pB hr1) zFH rfl<|.b [1,2,6] rfl<|.cb h rfl (fun h=>?_) (fun h=>?_)
 ·refine .a 1 rfl<|.sb 0 0 rfl<|.bf [2] [0] 3 rfl rfl<|.asrt (fun _ w=>w.nilL eu8 5)<|.asrt (fun _ w=>w.nilL eu8 5) ?_;cases h;exact .rt rfl Tryz.results35 (.cell rfl (.tail _ (.tail _ (.head _))) rfl .nil) rfl ⟨none,0,none,0,rfl,rfl⟩ (zl [1,0] 1 rfl)
 refine .sk<|.pr [1,2] rfl<|.seq<|.region<|.lb 0 1 rfl<|.bd h fun r2 hr2 h=>.ct 6 [2,3] [] 0 (zDh hr2) zFI rfl fun A3 c3 A4 c4=>.alloc rfl rfl fun g3=>.sb 0 0 rfl<|.bf [2,3] [0,0,0,0] 3 rfl rfl<|.a 1 rfl<|.lb 13 0 rfl<|.p rfl rfl<|.sb 14 0 rfl<|.b [2,3] rfl<|.seq<|.a 1 rfl<|.lb 15 0 rfl<|.b [2,3,14] rfl<|.cb h rfl (fun h=>?_) (fun h=>?_)
 ·refine .region<|.p rfl rfl<|.lb 13 0 rfl<|.n 2 rfl<|.sb 14 0 rfl<|.p rfl rfl<|.sb 15 0 rfl<|.b [2,3] rfl<|.seq<|.region<|.lb 0 0 rfl<|.sb 0 3 rfl<|.bf [2] [0] 1 rfl rfl ?_;cases h;exact .rt rfl Tryz.results35 (.cell rfl (.head _) rfl .nil) rfl ⟨A3,c3,A4,c4,rfl,rfl⟩ (zl [] 1 rfl)
 refine .sk<|.pr [2,3] rfl<|.seq<|.region<|.lb 0 0 rfl<|.sb 0 3 rfl<|.bf [2] [0] 1 rfl rfl ?_;cases h;exact .rt rfl Tryz.results35 (.cell rfl (.head _) rfl .nil) rfl ⟨A3,c3,A4,c4,rfl,rfl⟩ (zl [] 1 rfl)
theorem zMf:Ent Tryz.prog 146:=en Tryz.func146 (by kernel_rfl)
noncomputable def xV (a_p0:zD) (i_p1:Int):Option Bool:=
 bnd (elt a_p0.devices i_p1) fun x1=>bnd (zGe .u8 a_p0.before i_p1) fun q1=>some (x1.Active != (IntKind.wrap .i64 (rK .u8 q1 1)))
theorem pG {a_p0 i_p1 A1 c1 A2 c2 A3 c3 A4 c4 A5 c5 gb1 gb2 r} (h:xV a_p0 i_p1=some r):
    Fun Tryz.prog 146 [.pointer (some ⟨gb1,0,none⟩), .int .i64 i_p1] [.ro (SlL zR A2 c2 a_p0.needs), .ro (SlL yU A3 c3 a_p0.load.Have), .ro (SlL eu8 A4 c4 a_p0.load.Data), .ro (SlL yH A5 c5 a_p0.order), .res (Box gb1 144 (zI a_p0 gb2 A1 c1 A2 c2 A3 c3 A4 c4 A5 c5)), .res (xK (yL zE) 64 A1 c1 a_p0.devices)] (fun v F=>v= .bool r∧F= [.res (Box gb1 144 (zI a_p0 gb2 A1 c1 A2 c2 A3 c3 A4 c4 A5 c5)), .res (xK (yL zE) 64 A1 c1 a_p0.devices)]):=by
 refine Fun.intro Tryz.func146 rfl rfl rfl fun w R=>?_;refine .ab [0,1] rfl<|.seq<|.regionF mixed (by kernel_rfl)<|.n 3 rfl<|.lb 1 4 rfl<|.p rfl rfl<|.bd h fun x1 hx1 h=>.ixC hx1 rfl rfl rfl (zm 5 rfl) rfl rfl rfl rfl rfl fun g1 hA=>?_;subst hA;refine .p rfl rfl<|.ldC (ls:=zE) 13 (fun ex=>.int .i64 x1.Active) hx1 rfl rfl (zm 5 rfl) rfl (fun _=>rfl) fun ex1=>?_;obtain ⟨⟨A6,c6⟩,⟨⟨A7,c7⟩,_⟩⟩:=ex1;refine .nm 8 rfl<|.n 3 rfl<|.lb 8 6 rfl<|.p rfl rfl<|.bd h fun q1 hq1 h=>.shr rfl rfl rfl hq1<|.beq rfl<|.pf [4] [] 2 rfl rfl ?_;cases h;exact .rv rfl rfl ⟨rfl,rfl⟩ (zl [] 4 rfl)
theorem zMU:Ent Tryz.prog 225:=en Tryz.func225 (by kernel_rfl)
noncomputable def uH (s_p0:(List Int)) (f_p1_b:zD):Option Int:=
 bnd (yG (τ:=Int ⊕ Unit) (fun (s1:Int)=>bif decide (s1<(s_p0.length:Int)) then (bnd (elt s_p0 s1) fun x1=>bnd (xV f_p1_b x1) fun r1=>bif r1 then (some (.done (.inl s1))) else (some (.next (IntKind.wrap .i64 (s1+1))))) else (some (.done (.inr ())))) 0) fun o1=>wT o1 fun o2=>some (-1)
theorem kN {s_p0 f_p1_b A1 c1 A2 c2 A3 c3 A4 c4 A5 c5 A6 c6 gb1 gb2 r} (h:uH s_p0 f_p1_b=some r):
    Fun Tryz.prog 225 [.slice A1 s_p0.length c1, .func (.func 146) #[.pointer (some ⟨gb1,0,none⟩)] #[]] [.ro (SlL yH A1 c1 s_p0), .ro (SlL zR A3 c3 f_p1_b.needs), .ro (SlL yU A4 c4 f_p1_b.load.Have), .ro (SlL eu8 A5 c5 f_p1_b.load.Data), .ro (SlL yH A6 c6 f_p1_b.order), .res (Box gb1 144 (zI f_p1_b gb2 A2 c2 A3 c3 A4 c4 A5 c5 A6 c6)), .res (xK (yL zE) 64 A2 c2 f_p1_b.devices)] (fun v F=>v= .int .i64 r∧F= [.res (Box gb1 144 (zI f_p1_b gb2 A2 c2 A3 c3 A4 c4 A5 c5 A6 c6)), .res (xK (yL zE) 64 A2 c2 f_p1_b.devices)]):=by
 refine Fun.intro Tryz.func225 rfl rfl rfl fun w R=>?_;refine .ab [0,1] rfl<|.seq<|.ab [0,1,7,8] rfl<|.bd h fun o1 hl1 h=>.cutJ 1 (fun (o2:Unit) (e2:Unit)=>[]) (fun o2 e2=>[]) rfl rfl (fun o2=>o1= .inr o2) ?_ ?_
 ·refine .block<|.loopQ hl1 0 (fun (s1:Int) (e1:Unit)=>[0,1,7, .s 8 (.int .i64 s1)]) (fun s1 e1=>[]) rfl rfl () (zb rfl) (fun _ w=>w) ?_;rintro s1 e1 st1 hm1 hd1 h1;refine .ae rfl<|.seq<|.cb h1 rfl (fun h1=>?_) (fun h1=>?_)
  ·refine .sk<|.pr [0,1,7,8] rfl<|.seq<|.block<|.ab [0,1,5,7,8] rfl<|.a 3 rfl<|.bd h1 fun x1 hx1 h1=>.ix1 hx1 0 rfl fun b1 ob1=>.ld ob1 0 0 rfl<|.bd h1 fun r1 hr1 h1=>.callB (us:= [.pointer (some ⟨gb1,0,none⟩)]) (args:= [.int .i64 x1]) (pG (gb1:=gb1) hr1) zMf rfl rfl rfl (zd [4,5,6,7] [6,6] 0 rfl) ?_;rintro _ _ ⟨rfl,rfl⟩;refine .nm 8 rfl<|.bf [0,1,5,7,8,16] [0,0] 1 rfl rfl<|.cb h1 rfl (fun h1=>?_) (fun h1=>?_)
   ·refine .abf [4] [0,0] 1 rfl rfl ?_;cases h1;cases hd1 _ rfl
    have h:some _=some _:=h;cases h;exact .rv rfl rfl ⟨rfl,rfl⟩ (zl [0,0] 4 rfl)
   refine .skip<|.blkN<|.thenN<|.pr [0,1,7,8] rfl<|.region ?_;cases h1;exact .be rfl<|.ag () hm1 rfl (zl [2,2,2,2,2] 0 rfl)
  refine .xq rfl ?_;cases h1;cases hd1 _ rfl
  exact .thenN<|.hereI () () rfl trivial (zl [] 1 rfl)
 rintro o2 e2 ho;subst ho;have h:=unR h;refine .ae rfl ?_;cases h;exact .rv rfl rfl ⟨rfl,rfl⟩ (zl [] 4 rfl)
theorem zMm:Ent Tryz.prog 147:=en Tryz.func147 (by kernel_rfl)
noncomputable def yQ (s_p0:(List Int)) (f_p1_b:zD):Option Bool:=
 bnd (uH s_p0 f_p1_b) fun r1=>some (decide (r1≥0))
theorem sF {s_p0 f_p1_b A1 c1 A2 c2 A3 c3 A4 c4 A5 c5 A6 c6 gb1 gb2 r} (h:yQ s_p0 f_p1_b=some r):
    Fun Tryz.prog 147 [.slice A1 s_p0.length c1, .func (.func 146) #[.pointer (some ⟨gb1,0,none⟩)] #[]] [.ro (SlL yH A1 c1 s_p0), .ro (SlL zR A3 c3 f_p1_b.needs), .ro (SlL yU A4 c4 f_p1_b.load.Have), .ro (SlL eu8 A5 c5 f_p1_b.load.Data), .ro (SlL yH A6 c6 f_p1_b.order), .res (Box gb1 144 (zI f_p1_b gb2 A2 c2 A3 c3 A4 c4 A5 c5 A6 c6)), .res (xK (yL zE) 64 A2 c2 f_p1_b.devices)] (fun v F=>v= .bool r∧F= [.res (Box gb1 144 (zI f_p1_b gb2 A2 c2 A3 c3 A4 c4 A5 c5 A6 c6)), .res (xK (yL zE) 64 A2 c2 f_p1_b.devices)]):=by
 refine Fun.intro Tryz.func147 rfl rfl rfl fun w R=>?_;refine .ab [0,1] rfl<|.a 2 rfl<|.bd h fun r1 hr1 h=>.cq 7 [2,3,4,5,6] [5,5] 0 (kN (gb1:=gb1) hr1) zMU rfl<|.bf [4] [0,0] 1 rfl rfl ?_;cases h;exact .rv rfl rfl ⟨rfl,rfl⟩ (zl [0,0] 4 rfl)
theorem zWJ:Ent Tryz.prog 188:=en Tryz.func188 (by kernel_rfl)
noncomputable def qH (d_p0:zA):Option Bool:=
 some d_p0.down
theorem zAT {d_p0 A1 c1 A2 c2 gb1 r} (h:qH d_p0=some r):
    Fun Tryz.prog 188 [.pointer (some ⟨gb1,0,none⟩)] [.res (Box gb1 131 (zG d_p0 A1 c1 A2 c2)), .res (zM eu8 5 A1 c1 d_p0.bytes), .res (zM yH 3 A2 c2 d_p0.wear)] (fun v F=>v= .bool r∧F= [.res (Box gb1 131 (zG d_p0 A1 c1 A2 c2)), .res (zM eu8 5 A1 c1 d_p0.bytes), .res (zM yH 3 A2 c2 d_p0.wear)]):=by
 unfold qH at h
 refine Fun.intro Tryz.func188 rfl rfl rfl fun w R=>?_;refine .ab [0] rfl<|.a 3 rfl<|.lb 6 0 rfl<|.b [2] rfl ?_;cases h;exact .rv rfl rfl ⟨rfl,rfl⟩ zw
theorem zWR:Ent Tryz.prog 189:=en Tryz.func189 (by kernel_rfl)
noncomputable def nJ (l_p0:(List zF)):Option Int:=
 bif decide ((l_p0.length:Int)>32) then (some 3) else (bnd (yG (τ:=Int ⊕ ((List (Int × Bool)))) (fun (s1:Int × (List (Int × Bool)))=>bif decide (s1.1<(l_p0.length:Int)) then (bnd (elt l_p0 s1.1) fun x1=>bnd ((bif decide ((x1.Value.length:Int)>28) then (some true) else (bif x1.Delete then (some (decide ((x1.Value.length:Int)>0))) else (some false)):Option Bool)) fun o3=>bif o3 then (some (.done (.inl 1))) else (bif (vM (yF .u8).eq s1.2 x1.Key).getD false then (some (.done (.inl 7))) else (some (.next (IntKind.wrap .i64 (s1.1+1),nD (yF .u8).eq s1.2 x1.Key true))))) else (some (.done (.inr s1.2)))) (0, [])) fun o1=>wT o1 fun o2=>some 0)
theorem zDH {l_p0 A1 c1 r} (h:nJ l_p0=some r):
    Fun Tryz.prog 189 [.slice A1 l_p0.length c1] [.ro (Sl (yL xQ) A1 c1 l_p0)] (Val (.int .i64 r)):=by
 refine Fun.intro Tryz.func189 rfl rfl rfl fun w R=>?_;refine .ab [0] rfl<|.seq<|.ab [0,8] rfl<|.cb h rfl (fun h=>?_) (fun h=>?_)
 ·refine .abf [2] [] 1 rfl rfl ?_;cases h;exact .rv rfl rfl ⟨rfl,rfl⟩ zw
 refine .sk<|.pr [0] rfl<|.seq<|.region<|.makeMap (K:=(yF .u8)) (vv:=(fun x=>.bool x)) rfl fun g1=>.b [0,3] rfl<|.seq<|.ab [3,10,11,12] rfl<|.bd h fun o1 hl1 h=>.cutJ 2 (fun (o2:(List (Int × Bool))) (e2:Unit)=>[]) (fun o2 e2=>[]) rfl rfl (fun o2=>o1= .inr o2) ?_ ?_
 ·refine .block<|.loopQ hl1 1 (fun (s1:Int × (List (Int × Bool))) (e1:Unit)=>[3,10,11, .s 12 (.int .i64 s1.1)]) (fun s1 e1=>[.res (nC (yF .u8) (fun x=>.bool x) g1 s1.2)]) rfl rfl () (zb rfl) (fun _ w=>w) ?_;rintro s1 e1 st1 hm1 hd1 h1;refine .ae rfl<|.seq<|.cb h1 rfl (fun h1=>?_) (fun h1=>?_)
  ·refine .sk<|.pr [3,10,11,12] rfl<|.seq<|.block<|.seq<|.region<|.bd h1 fun x1 hx1 h1=>.ix3 hx1 1 rfl fun b1 ob1 ex1=>?_;obtain ⟨⟨A2,c2⟩,_⟩:=ex1;refine .nm 4 rfl<|.ld ob1 0 0 rfl<|.alloc rfl rfl fun g2=>.sb 0 0 rfl<|.bf [3,5,10,11,12] [0] 1 rfl rfl<|.seq<|.block<|.seq<|.bd h1 fun o3 hj1 h1=>.cu 0 [3,5,10,11,12, .s 16 (.bool o3)] [] rfl rfl ?_ ?_
   ·refine .region<|.p rfl rfl<|.lb 1 0 rfl<|.n 3 rfl<|.gs 21 hj1 rfl (fun hj1=>?_) (fun hj1=>?_)
    ·cases hj1;exact .be rfl<|.hU rfl zw
    refine .n 1 rfl<|.gOn rfl rfl<|.lb 2 0 rfl<|.n 1 rfl<|.gs 24 hj1 rfl (fun hj1=>?_) (fun hj1=>?_)
    ·refine .n 1 rfl<|.gOn rfl rfl<|.lb 1 0 rfl ?_;cases hj1;exact .be rfl<|.hU rfl zw
    cases hj1;exact .be rfl<|.hU rfl zw
   refine .cb h1 rfl (fun h1=>?_) (fun h1=>?_)
   ·refine .abf [2] [] 4 rfl rfl ?_;cases h1;cases hd1 _ rfl
    have h:some _=some _:=h;cases h;exact .rv rfl rfl ⟨rfl,rfl⟩ zw
   refine .a 2 rfl<|.lb 0 0 rfl<|.lookup (K:=(yF .u8)) (vv:=(fun x=>.bool x)) (u:=.bool ((vM (yF .u8).eq s1.2 x1.Key).getD false)) false x1.Key rfl rfl rfl (zm 2 rfl) rfl rfl rfl rfl rfl rfl rfl<|.b [3,5,10,11,12,31] rfl<|.cb h1 rfl (fun h1=>?_) (fun h1=>?_)
   ·refine .abf [2] [] 4 rfl rfl ?_;cases h1;cases hd1 _ rfl
    have h:some _=some _:=h;cases h;exact .rv rfl rfl ⟨rfl,rfl⟩ zw
   refine .skip<|.blkN<|.thenN<|.pr [3,5,10,11,12] rfl<|.region<|.n 2 rfl<|.lb 0 0 rfl<|.mapUpdate (K:=(yF .u8)) (vv:=(fun x=>.bool x)) x1.Key true rfl rfl rfl (.s (.s .z)) rfl rfl rfl rfl<|.done<|.blkN<|.thenN<|.pf [3,10,11,12] [0] 2 rfl rfl<|.region ?_;cases h1;exact .be rfl<|.ag () hm1 rfl zw
  refine .xq rfl ?_;cases h1;cases hd1 _ rfl
  exact .thenN<|.hereI s1.2 () rfl trivial (zl [] 2 rfl)
 rintro o2 e2 ho;subst ho;have h:=unR h;refine .ae rfl ?_;cases h;exact .rv rfl rfl ⟨rfl,rfl⟩ zw
theorem zSC:Ent Tryz.prog 190:=en Tryz.func190 (by kernel_rfl)
noncomputable def rN (l_p0:(List zF)):Option (List Int):=
 bnd (yG (τ:=List Int) (fun (s1:List Int × Int)=>bif decide (s1.2<(l_p0.length:Int)) then (bnd (elt l_p0 s1.2) fun x1=>bif x1.Delete then (bnd (app 1 s1.1 [x1.Key,128]) fun l1=>some (.next (l1,IntKind.wrap .i64 (s1.2+1)))) else (bnd (app 1 s1.1 [x1.Key,IntKind.wrap .u8 (x1.Value.length:Int)]) fun l2=>bnd (app 1 l2 x1.Value) fun l3=>some (.next (l3,IntKind.wrap .i64 (s1.2+1))))) else (some (.done s1.1))) ([IntKind.wrap .u8 (l_p0.length:Int)],0)) fun o1=>bnd (app 1 o1 [0]) fun l4=>some l4
theorem eG {l_p0 A1 c1 r} (h:rN l_p0=some r):
    Fun Tryz.prog 190 [.slice A1 l_p0.length c1] [.ro (Sl (yL xQ) A1 c1 l_p0)] (fun v F=>∃ A2 c2,v= .slice A2 r.length c2∧F= [.res (zM eu8 5 A2 c2 r)]):=by
 refine Fun.intro Tryz.func190 rfl rfl rfl fun w R=>?_;refine .ab [0] rfl<|.a 3 rfl<|.bS rfl fun g1=>.b [0,3] rfl<|.seq<|.ab [3,10,11,12] rfl<|.asrt (fun _ w=>w.litL (E:=eu8) (e:=5) [IntKind.wrap .u8 (l_p0.length:Int)] rfl rfl)<|.bd h fun o1 hl1 h=>.cutK 2 (fun (e2:Option Addr × Nat)=>[.s 3 (.slice e2.1 o1.length e2.2)]) (fun e2=>[.res (zM eu8 5 e2.1 e2.2 o1)]) rfl rfl ?_ ?_
 ·refine .block<|.loopQ hl1 1 (fun (s1:List Int × Int) (e1:Option Addr × Nat)=>[.s 3 (.slice e1.1 s1.1.length e1.2),10,11, .s 12 (.int .i64 s1.2)]) (fun s1 e1=>[.res (zM eu8 5 e1.1 e1.2 s1.1)]) rfl rfl ((some ⟨g1,0,none⟩),([IntKind.wrap .u8 (l_p0.length:Int)]:List Int).length) (zb rfl) (fun _ w=>w) ?_;rintro s1 ⟨A2,c2⟩ st1 hm1 hd1 h1;refine .ae rfl<|.seq<|.cb h1 rfl (fun h1=>?_) (fun h1=>?_)
  ·refine .sk<|.pr [3,10,11,12] rfl<|.seq<|.block<|.seq<|.region<|.bd h1 fun x1 hx1 h1=>.ix3 hx1 1 rfl fun b1 ob1 ex1=>?_;obtain ⟨⟨A4,c4⟩,_⟩:=ex1;refine .nm 4 rfl<|.ld ob1 0 0 rfl<|.alloc rfl rfl fun g2=>.sb 0 0 rfl<|.bf [3,5,10,11,12] [0] 1 rfl rfl<|.a 1 rfl<|.lb 2 0 rfl<|.b [3,5,10,11,12,17] rfl<|.cb h1 rfl (fun h1=>?_) (fun h1=>?_)
   ·refine .region<|.n 2 rfl<|.lb 0 0 rfl<|.bS rfl fun g3=>.bd h1 fun l1 hl1 h1=>.app (E:=eu8) hl1 rfl rfl rfl (.s (.s (.s .z))) rfl rfl rfl rfl rfl rfl rfl rfl (eO (.head _) rfl rfl) rfl rfl fun A5 c5=>.p rfl rfl<|.done<|.blkN<|.thenN<|.pf [3,10,11,12] [0] 3 rfl rfl<|.region ?_;cases h1;exact .be rfl<|.ag (A5,c5) hm1 rfl zw
   refine .regionX (iN [0,4,9,12,17,20,24,36,40,31,35,47,48] .nil) _ mixed (by kernel_rfl) (zl [0,0] 1 rfl)<|.yn 2 rfl<|.yx 0 0 rfl<|.yn 1 rfl<|.yx 1 0 rfl<|.yn 3 rfl<|.yl 1 0 rfl<|.xef<|.bS rfl fun g4=>.xk (zl [1,1] 2 rfl)<|.xef<|.bd h1 fun l2 hl2 h1=>.app (E:=eu8) hl2 rfl rfl rfl (.s (.s (.s .z))) rfl rfl rfl rfl rfl rfl rfl rfl (eO (.head _) rfl rfl) rfl rfl fun A6 c6=>.xk (zl [] 2 rfl)<|.xef<|.bd h1 fun l3 hl3 h1=>.app (E:=eu8) hl3 rfl rfl rfl .z rfl rfl rfl rfl rfl rfl rfl rfl (fB (.tail _ (.tail _ (.tail _ (.head _))))) rfl rfl fun A7 c7=>.xk (zl [] 2 rfl)<|.yn 1 rfl<|.xdone<|.blkN<|.thenN<|.pf [3,10,11,12] [0] 3 rfl rfl<|.region ?_;cases h1;exact .be rfl<|.ag (A7,c7) hm1 rfl zw
  refine .xq rfl ?_;cases h1;cases hd1 _ rfl
  exact .thenN<|.hE (A2,c2) rfl (zl [0] 1 rfl)
 rintro ⟨A3,c3⟩;refine .a 1 rfl<|.bS rfl fun g5=>.bd h fun l4 hl4 h=>.app (E:=eu8) hl4 rfl rfl rfl (.s .z) rfl rfl rfl rfl rfl rfl rfl rfl (eO (.head _) rfl rfl) rfl rfl fun A8 c8=>.bf [2] [0] 1 rfl rfl ?_;cases h;exact .rv rfl rfl ⟨A8,c8,rfl,rfl⟩ zw
theorem zQC:Ent Tryz.prog 239:=en Tryz.func239 (by kernel_rfl)
noncomputable def vD (d_p0:zA):Option (zA × Bool):=
 bif decide (d_p0.left>0) then (some ((⟨d_p0.size,d_p0.bytes,d_p0.wear,IntKind.wrap .i64 (d_p0.steps+1),IntKind.wrap .i64 (d_p0.left - 1),d_p0.torn,((IntKind.wrap .i64 (d_p0.left - 1))==0)⟩:zA),((IntKind.wrap .i64 (d_p0.left - 1))==0))) else (some ((⟨d_p0.size,d_p0.bytes,d_p0.wear,IntKind.wrap .i64 (d_p0.steps+1),d_p0.left,d_p0.torn,d_p0.down⟩:zA),d_p0.down))
theorem hZ {d_p0 A1 c1 A2 c2 gb1 r} (h:vD d_p0=some r):
    Fun Tryz.prog 239 [.pointer (some ⟨gb1,0,none⟩)] [.res (Box gb1 131 (zG d_p0 A1 c1 A2 c2)), .res (zM eu8 5 A1 c1 d_p0.bytes), .res (zM yH 3 A2 c2 d_p0.wear)] (fun v F=>∃ A3 c3 A4 c4,v= .bool r.2∧F= [.res (Box gb1 131 (zG r.1 A3 c3 A4 c4)), .res (zM eu8 5 A3 c3 r.1.bytes), .res (zM yH 3 A4 c4 r.1.wear)]):=by
 refine Fun.intro Tryz.func239 rfl rfl rfl fun w R=>?_;refine .ab [0] rfl<|.a 3 rfl<|.lb 3 0 rfl<|.n 3 rfl<|.sb 3 0 rfl<|.b [0] rfl<|.seq<|.a 3 rfl<|.lb 4 0 rfl<|.b [0,14] rfl<|.cb h rfl (fun h=>?_) (fun h=>?_)
 ·refine .a 3 rfl<|.lb 4 0 rfl<|.n 3 rfl<|.sb 4 0 rfl<|.b [0] rfl<|.region<|.n 4 rfl<|.lb 4 0 rfl<|.n 3 rfl<|.sb 6 0 rfl<|.b [0] rfl<|.a 3 rfl<|.lb 6 0 rfl<|.b [2] rfl ?_;cases h;exact .rv rfl rfl ⟨A1,c1,A2,c2,rfl,rfl⟩ zw
 refine .sk<|.pr [0] rfl<|.a 3 rfl<|.lb 6 0 rfl<|.b [2] rfl ?_;cases h;exact .rv rfl rfl ⟨A1,c1,A2,c2,rfl,rfl⟩ zw
theorem zJa:Ent Tryz.prog 191:=en Tryz.func191 (by kernel_rfl)
noncomputable def wJ (d_p0:zA) (at_p1:Int) (b_p2:(List Int)):Option (zA × Int):=
 bif d_p0.down then (some (d_p0,10)) else (bnd (uS d_p0 at_p1 (b_p2.length:Int)) fun r1=>bif !r1 then (some (d_p0,2)) else (bnd (yG (τ:=(zA × Int) ⊕ zA) (fun (s1:zA × Int)=>bif decide (s1.2<(b_p2.length:Int)) then (bnd (elt b_p2 s1.2) fun x1=>bnd (vD s1.1) fun r2=>bif r2.2 then (bnd (elt r2.1.bytes (IntKind.wrap .i64 (at_p1+s1.2))) fun x2=>bnd (elt r2.1.bytes (IntKind.wrap .i64 (at_p1+s1.2))) fun x3=>bnd (elt r2.1.bytes (IntKind.wrap .i64 (at_p1+s1.2))) fun x4=>bnd (tH r2.1.bytes (IntKind.wrap .i64 (at_p1+s1.2)) (rK .u8 x3 (iOr .u8 x1 r2.1.torn))) fun l1=>some (.done (.inl ((⟨r2.1.size,l1,r2.1.wear,r2.1.steps,r2.1.left,r2.1.torn,r2.1.down⟩:zA),10)))) else (bnd (elt r2.1.bytes (IntKind.wrap .i64 (at_p1+s1.2))) fun x5=>bnd (tH r2.1.bytes (IntKind.wrap .i64 (at_p1+s1.2)) (rK .u8 x5 x1)) fun l2=>some (.next ((⟨r2.1.size,l2,r2.1.wear,r2.1.steps,r2.1.left,r2.1.torn,r2.1.down⟩:zA),IntKind.wrap .i64 (s1.2+1))))) else (some (.done (.inr s1.1)))) (d_p0,0)) fun o1=>wT o1 fun o2=>some (o2,0)))
theorem tY {d_p0 at_p1 b_p2 A1 c1 A2 c2 A3 c3 gb1 r} (h:wJ d_p0 at_p1 b_p2=some r):
    Fun Tryz.prog 191 [.pointer (some ⟨gb1,0,none⟩), .int .i64 at_p1, .slice A3 b_p2.length c3] [.ro (SlL eu8 A3 c3 b_p2), .res (Box gb1 131 (zG d_p0 A1 c1 A2 c2)), .res (zM eu8 5 A1 c1 d_p0.bytes), .res (zM yH 3 A2 c2 d_p0.wear)] (fun v F=>∃ A4 c4 A5 c5,v= .int .i64 r.2∧F= [.res (Box gb1 131 (zG r.1 A4 c4 A5 c5)), .res (zM eu8 5 A4 c4 r.1.bytes), .res (zM yH 3 A5 c5 r.1.wear)]):=by
 refine Fun.intro Tryz.func191 rfl rfl rfl fun w R=>?_;refine .ab [0,1,2] rfl<|.seq<|.block<|.a 3 rfl<|.lb 6 1 rfl<|.b [0,1,2,9] rfl<|.cb h rfl (fun h=>?_) (fun h=>?_)
 ·refine .abf [6] [] 1 rfl rfl ?_;cases h;exact .rv rfl rfl ⟨A1,c1,A2,c2,rfl,rfl⟩ zw
 refine .a 4 rfl<|.bd h fun r1 hr1 h=>.cq 4 [] [1,1,1] 0 (kR hr1) zSx rfl<|.b [0,1,2,14] rfl<|.cb h rfl (fun h=>?_) (fun h=>?_)
 ·refine .abf [6] [0,0,0] 1 rfl rfl ?_;cases h;exact .rv rfl rfl ⟨A1,c1,A2,c2,rfl,rfl⟩ zw
 refine .skip<|.blkN<|.thenN<|.pr [0,1,2] rfl<|.seq<|.ab [0,1,21,22,23] rfl<|.bd h fun o1 hl1 h=>.cutJ 4 (fun (o2:zA) (e2:Option Addr × Nat × Option Addr × Nat)=>[]) (fun o2 e2=>[.res (zM yH 3 e2.2.2.1 e2.2.2.2 o2.wear), .res (zM eu8 5 e2.1 e2.2.1 o2.bytes), .res (Box gb1 131 (zG o2 e2.1 e2.2.1 e2.2.2.1 e2.2.2.2))]) rfl rfl (fun o2=>o1= .inr o2) ?_ ?_
 ·refine .block<|.loopQ hl1 3 (fun (s1:zA × Int) (e1:Option Addr × Nat × Option Addr × Nat)=>[0,1,21,22, .s 23 (.int .i64 s1.2)]) (fun s1 e1=>[.res (zM yH 3 e1.2.2.1 e1.2.2.2 s1.1.wear), .res (zM eu8 5 e1.1 e1.2.1 s1.1.bytes), .res (Box gb1 131 (zG s1.1 e1.1 e1.2.1 e1.2.2.1 e1.2.2.2))]) rfl rfl (A1,c1,A2,c2) (zb rfl) (zl [2,1] 0 rfl) ?_;rintro s1 ⟨A4,c4,A5,c5⟩ st1 hm1 hd1 h1;refine .ae rfl<|.seq<|.cb h1 rfl (fun h1=>?_) (fun h1=>?_)
  ·refine .sk<|.pr [0,1,21,22,23] rfl<|.seq<|.block<|.a 1 rfl<|.bd h1 fun x1 hx1 h1=>.ix1 hx1 3 rfl fun b1 ob1=>.ld ob1 0 0 rfl<|.bf [0,1,7,8,21,22,23] [] 1 rfl rfl<|.seq<|.a 1 rfl<|.bd h1 fun r2 hr2 h1=>.ct 4 [] [2,1] 0 (hZ hr2) zQC rfl fun A8 c8 A9 c9=>.b [0,1,7,8,21,22,23,29] rfl<|.cb h1 rfl (fun h1=>?_) (fun h1=>?_)
   ·refine .seq<|.bd h1 fun x2 hx2 h1=>.openO (.tail _ (.head _)) hx2 fun g1 hA=>?_;subst hA;refine .regionX (iN [0,4,8,13,16,20,24,29,33,36,40,44,48,53,56,60,65,71] .nil) _ mixed (by kernel_rfl) (zl [] 2 rfl)<|.yn 3 rfl<|.yx 1 0 rfl<|.yn 3 rfl<|.bd h1 fun x3 hx3 h1=>.xfx (Rd.ixO (E:=eu8) hx3 rfl rfl rfl rfl rfl rfl rfl) rfl<|.xfx (Rd.ldO 0 hx3 rfl (.tail _ (.head _)) rfl rfl) rfl<|.yn 4 rfl<|.yx 5 0 rfl<|.yn 2 rfl<|.bd h1 fun x4 hx4 h1=>.xfx (Rd.ixO (E:=eu8) hx4 rfl rfl rfl rfl rfl rfl rfl) rfl<|.xef<|.bd h1 fun l1 hl1 h1=>.stO 0 hx4 hl1 rfl rfl (.s .z) rfl rfl rfl rfl rfl ?_;refine .ss 33 (wZ hl1)<|.asrt (F':=.res (zM eu8 5 (some ⟨g1,0,none⟩) c8 l1):: .res (Box gb1 131 [.int .i64 r2.1.size, .slice (some ⟨g1,0,none⟩) l1.length c8, .slice A9 r2.1.wear.length c9, .int .i64 r2.1.steps, .int .i64 r2.1.left, .int .u8 r2.1.torn, .bool r2.1.down]):: .res (zM yH 3 A9 c9 r2.1.wear):: .ro (SlL eu8 A3 c3 b_p2)::R) (fun _ w=>by rw [oL hl1]; exact w)<|.xk (zl [] 2 rfl)<|.xdone<|.thenN<|.pf [] [0,0,0] 1 rfl rfl<|.ae rfl ?_;cases h1;cases hd1 _ rfl
    have h:some _=some _:=h;cases h;exact .rv rfl rfl ⟨(some ⟨g1,0,none⟩),c8,A9,c9,rfl,rfl⟩ (zl [1] 0 rfl)
   refine .sk<|.pr [0,1,7,8,21,22,23] rfl<|.region<|.n 3 rfl<|.lb 1 0 rfl<|.n 3 rfl<|.bd h1 fun x5 hx5 h1=>.ix2 hx5 1 rfl fun g4 hA=>?_;subst hA;refine .ldO 0 hx5 rfl rfl (.tail _ (.head _)) rfl rfl<|.n 2 rfl<|.ix2 hx5 1 rfl fun g5 hA=>?_;cases hA;refine .bd h1 fun l2 hl2 h1=>.stO 0 hx5 hl2 rfl rfl (.s .z) rfl rfl rfl rfl rfl ?_;refine .ss 50 (wZ hl2)<|.asrt (F':=.res (zM eu8 5 (some ⟨g4,0,none⟩) c8 l2):: .res (Box gb1 131 [.int .i64 r2.1.size, .slice (some ⟨g4,0,none⟩) l2.length c8, .slice A9 r2.1.wear.length c9, .int .i64 r2.1.steps, .int .i64 r2.1.left, .int .u8 r2.1.torn, .bool r2.1.down]):: .res (zM yH 3 A9 c9 r2.1.wear):: .ro (SlL eu8 A3 c3 b_p2)::R) (fun _ w=>by rw [oL hl2]; exact w)<|.done<|.blkN<|.thenN<|.pr [0,1,21,22,23] rfl<|.region ?_;cases h1;exact .be rfl<|.ag ((some ⟨g4,0,none⟩),c8,A9,c9) hm1 rfl (zl [2] 0 rfl)
  refine .xq rfl ?_;cases h1;cases hd1 _ rfl
  exact .thenN<|.hereI s1.1 (A4,c4,A5,c5) rfl trivial (zl [0,0,0] 1 rfl)
 rintro o2 ⟨A6,c6,A7,c7⟩ ho;subst ho;have h:=unR h;refine .ae rfl ?_;cases h;exact .rv rfl rfl ⟨A6,c6,A7,c7,rfl,rfl⟩ (zl [2,1] 0 rfl)
theorem zVV:Ent Tryz.prog 240:=en Tryz.func240 (by kernel_rfl)
noncomputable def rS (d_p0:zA) (sector:Int):Option (zA × Int):=
 bif d_p0.down then (some (d_p0,10)) else (bnd ((bif decide (sector<0) then (some true) else (some (decide (sector≥(d_p0.wear.length:Int)))):Option Bool)) fun o1=>bif o1 then (some (d_p0,2)) else (bnd (elt d_p0.wear sector) fun x1=>bnd (tH d_p0.wear sector (IntKind.wrap .i64 (x1+1))) fun l1=>bnd (vD (⟨d_p0.size,d_p0.bytes,l1,d_p0.steps,d_p0.left,d_p0.torn,d_p0.down⟩:zA)) fun r1=>bnd ((bif r1.2 then (some r1.1.torn) else (some 255):Option Int)) fun o2=>bnd (lE r1.1.bytes.length (IntKind.wrap .i64 (sector*r1.1.size)) (IntKind.wrap .i64 ((IntKind.wrap .i64 (sector+1))*r1.1.size))) fun n1=>bnd (yG (τ:=zA) (fun (s1:zA × Int)=>bif decide (s1.2<(n1:Int)) then (bnd (zIO s1.1.bytes (Int.toNat (IntKind.wrap .i64 (sector*r1.1.size))) n1 s1.2) fun x2=>bnd (zIO s1.1.bytes (Int.toNat (IntKind.wrap .i64 (sector*r1.1.size))) n1 s1.2) fun x3=>bnd (tH s1.1.bytes (((Int.toNat (IntKind.wrap .i64 (sector*r1.1.size)):Nat):Int)+s1.2) (iOr .u8 x2 o2)) fun l2=>some (.next ((⟨s1.1.size,l2,s1.1.wear,s1.1.steps,s1.1.left,s1.1.torn,s1.1.down⟩:zA),IntKind.wrap .i64 (s1.2+1)))) else (some (.done s1.1))) (r1.1,0)) fun o3=>bif r1.2 then (some (o3,10)) else (some (o3,0))))
end Go.Proofs.YtplchdlgdjcojaaGreatDoor
end
section
namespace Go.Proofs.YtplchdlgdjcojaaGreatDoor
open Go
set_option linter.unusedVariables false
set_option maxHeartbeats 4000000
set_option maxRecDepth 4000
theorem zAb {d_p0 sector A1 c1 A2 c2 gb1 r} (h:rS d_p0 sector=some r):
    Fun Tryz.prog 240 [.pointer (some ⟨gb1,0,none⟩), .int .i64 sector] [.res (Box gb1 131 (zG d_p0 A1 c1 A2 c2)), .res (zM eu8 5 A1 c1 d_p0.bytes), .res (zM yH 3 A2 c2 d_p0.wear)] (fun v F=>∃ A3 c3 A4 c4,v= .int .i64 r.2∧F= [.res (Box gb1 131 (zG r.1 A3 c3 A4 c4)), .res (zM eu8 5 A3 c3 r.1.bytes), .res (zM yH 3 A4 c4 r.1.wear)]):=by
 refine Fun.intro Tryz.func240 rfl rfl rfl fun w R=>?_;refine .ab [0,1] rfl<|.seq<|.block<|.a 3 rfl<|.lb 6 0 rfl<|.b [0,1,9] rfl<|.cb h rfl (fun h=>?_) (fun h=>?_)
 ·refine .ab [4] rfl ?_;cases h;exact .rv rfl rfl ⟨A1,c1,A2,c2,rfl,rfl⟩ zw
 refine .seq<|.bd h fun o1 hj1 h=>.cu 0 [0,1, .s 14 (.bool o1)] [] rfl rfl ?_ ?_
 ·refine .region<|.n 3 rfl<|.gs 17 hj1 rfl (fun hj1=>?_) (fun hj1=>?_)
  ·cases hj1;exact .be rfl<|.hU rfl zw
  refine .n 4 rfl<|.gOn rfl rfl<|.lb 2 0 rfl ?_;cases hj1;exact .be rfl<|.hU rfl zw
 refine .cb h rfl (fun h=>?_) (fun h=>?_)
 ·refine .ab [4] rfl ?_;cases h;exact .rv rfl rfl ⟨A1,c1,A2,c2,rfl,rfl⟩ zw
 refine .skip<|.blkN<|.thenN<|.pr [0,1] rfl<|.a 3 rfl<|.lb 2 0 rfl<|.p rfl rfl<|.bd h fun x1 hx1 h=>.ix2 hx1 2 rfl fun g1 hA=>?_;subst hA;refine .ldO 0 hx1 rfl rfl (zm 2 rfl) rfl rfl<|.p rfl rfl<|.ix2 hx1 2 rfl fun g2 hA=>?_;cases hA;refine .bd h fun l1 hl1 h=>.stO 0 hx1 hl1 rfl rfl (.s (.s .z)) rfl rfl rfl rfl rfl ?_;refine .ss 29 (wZ hl1)<|.asrt (F':=.res (zM yH 3 (some ⟨g1,0,none⟩) c2 l1):: .res (Box gb1 131 [.int .i64 d_p0.size, .slice A1 d_p0.bytes.length c1, .slice (some ⟨g1,0,none⟩) l1.length c2, .int .i64 d_p0.steps, .int .i64 d_p0.left, .int .u8 d_p0.torn, .bool d_p0.down]):: .res (zM eu8 5 A1 c1 d_p0.bytes)::R) (fun _ w=>by rw [oL hl1]; exact w)<|.b [0,1] rfl<|.a 1 rfl<|.bd h fun r1 hr1 h=>.ct 3 [] [1,1] 0 (hZ hr1) zQC rfl fun A3 c3 A4 c4=>.b [0,1,5] rfl<|.ae rfl<|.seq<|.bd h fun o2 hj2 h=>.cu 0 [0,1,5, .s 6 (.int .u8 o2)] [] rfl rfl ?_ ?_
 ·refine .ae rfl<|.cb hj2 rfl (fun hj2=>?_) (fun hj2=>?_)
  ·refine .region<|.n 3 rfl<|.lb 5 0 rfl ?_;cases hj2;exact .be rfl<|.hU rfl zw
  cases hj2;exact .sk<|.hU rfl zw
 refine .seq<|.regionF mixed (by kernel_rfl)<|.n 3 rfl<|.lb 1 0 rfl<|.n 4 rfl<|.lb 0 0 rfl<|.n 6 rfl<|.lb 0 0 rfl<|.p rfl rfl<|.bd h fun n1 hn1 h=>.part (E:=eu8) hn1 rfl rfl (.tail _ (.head _)) rfl rfl rfl rfl rfl rfl rfl<|.bq [5,6,7] rfl<|.seq<|.ab [5,6,7,61,62] rfl<|.bd h fun o3 hl1 h=>.cutK 3 (fun (e4:Option Addr × Nat × Option Addr × Nat)=>[5]) (fun e4=>[.res (zM yH 3 e4.2.2.1 e4.2.2.2 o3.wear), .res (zM eu8 5 e4.1 e4.2.1 o3.bytes), .res (Box gb1 131 (zG o3 e4.1 e4.2.1 e4.2.2.1 e4.2.2.2))]) rfl rfl ?_ ?_
 ·refine .block<|.loopQ hl1 3 (fun (s1:zA × Int) (e3:Option Addr × Nat × Option Addr × Nat)=>[5,6, .s 7 (.slice (zEh e3.1 e3.2.1 (Int.toNat (IntKind.wrap .i64 (sector*r1.1.size))) 1) n1 (e3.2.1 - (Int.toNat (IntKind.wrap .i64 (sector*r1.1.size))))),61, .s 62 (.int .i64 s1.2)]) (fun s1 e3=>[.res (zM yH 3 e3.2.2.1 e3.2.2.2 s1.1.wear), .res (zM eu8 5 e3.1 e3.2.1 s1.1.bytes), .res (Box gb1 131 (zG s1.1 e3.1 e3.2.1 e3.2.2.1 e3.2.2.2))]) rfl rfl (A3,c3,A4,c4) (zb rfl) (zl [2,1] 0 rfl) ?_;rintro s1 ⟨A5,c5,A6,c6⟩ st1 hm1 hd1 h1;refine .ae rfl<|.seq<|.cb h1 rfl (fun h1=>?_) (fun h1=>?_)
  ·refine .sk<|.pr [5,6,7,61,62] rfl<|.seq<|.block<|.ab [5,6,7,8,61,62] rfl<|.region<|.n 2 rfl<|.bd h1 fun x2 hx2 h1=>.ixPt (E:=eu8) zCs hx2 rfl rfl rfl (.tail _ (.head _)) rfl rfl rfl rfl fun g3 hA=>?_;subst hA;refine .ldO 0 (zNu hx2) rfl rfl (.tail _ (.head _)) rfl rfl<|.n 2 rfl<|.bd h1 fun x3 hx3 h1=>.ixPt (E:=eu8) zCs hx3 rfl rfl rfl (.tail _ (.head _)) rfl rfl rfl rfl fun g4 hA=>?_;cases hA;refine .bd h1 fun l2 hl2 h1=>.stO 0 (zNu hx3) hl2 rfl rfl (.s .z) rfl rfl rfl rfl rfl<|.asrt (F':=.res (zM eu8 5 (some ⟨g3,0,none⟩) c5 l2):: .res (zM yH 3 A6 c6 s1.1.wear):: .res (Box gb1 131 [.int .i64 s1.1.size, .slice (some ⟨g3,0,none⟩) l2.length c5, .slice A6 s1.1.wear.length c6, .int .i64 s1.1.steps, .int .i64 s1.1.left, .int .u8 s1.1.torn, .bool s1.1.down])::R) (fun _ w=>by rw [oL hl2]; exact w)<|.done<|.blkN<|.thenN<|.pr [5,6,7,61,62] rfl<|.region ?_;cases h1;exact .be rfl<|.ag ((some ⟨g3,0,none⟩),c5,A6,c6) hm1 rfl (zl [1] 0 rfl)
  refine .xq rfl ?_;cases h1;cases hd1 _ rfl
  exact .thenN<|.hE (A5,c5,A6,c6) rfl zw
 rintro ⟨A7,c7,A8,c8⟩;refine .seq<|.ab [73] rfl<|.cb h rfl (fun h=>?_) (fun h=>?_)
 ·refine .ab [4] rfl ?_;cases h;exact .rv rfl rfl ⟨A7,c7,A8,c8,rfl,rfl⟩ (zl [2,1] 0 rfl)
 refine .sk<|.pr [] rfl<|.ae rfl ?_;cases h;exact .rv rfl rfl ⟨A7,c7,A8,c8,rfl,rfl⟩ (zl [2,1] 0 rfl)
theorem zVT:Ent Tryz.prog 260:=en Tryz.func260 (by kernel_rfl)
theorem zVZ:Ent Tryz.prog 259:=en Tryz.func259 (by kernel_rfl)
theorem zVE:Ent Tryz.prog 241:=en Tryz.func241 (by kernel_rfl)
noncomputable def vB (v_p0:(Option (List (Int × (List Int))))):Option (List zF):=
 bnd (zDz v_p0) fun r1=>bnd (gG v_p0) fun r2=>bnd (yG (τ:=List zF) (fun (s1:List zF × Int)=>bif decide (s1.2<(r2.length:Int)) then (bnd (elt r2 s1.2) fun x1=>bnd (zP ((vM (yF .u8).eq (v_p0.getD []) x1).getD [])) fun r3=>bnd (app 40 s1.1 [(⟨x1,r3,false⟩:zF)]) fun l1=>some (.next (l1,IntKind.wrap .i64 (s1.2+1)))) else (some (.done s1.1))) ([],0)) fun o1=>some o1
theorem fO {v_p0 M1 r} (h:vB v_p0=some r):
    Fun Tryz.prog 241 [.map M1] [.res (yO (yF .u8) (cod eu8) M1 v_p0)] (fun v F=>∃ A1 c1,v= .slice A1 r.length c1∧F= [.res (yO (yF .u8) (cod eu8) M1 v_p0), .res (xK (yL xQ) 107 A1 c1 r)]):=by
 refine Fun.intro Tryz.func241 rfl rfl rfl fun w R=>?_;refine .ab [0] rfl<|.ae rfl<|.seq<|.a 1 rfl<|.bd h fun r1 hr1 h=>.call (zPp hr1) zVT rfl rfl rfl (fun _ w=>w) ?_;rintro _ _ ⟨g1,rfl,rfl⟩;refine .nm 2 rfl<|.bd h fun r2 hr2 h=>.cr 3 [] [] 0 (zJd hr2) zVZ rfl fun A1 c1=>.bf [0,3,8,9,10] [] 1 rfl rfl<|.asrt (fun _ w=>w.nilC (yL xQ) 107)<|.bd h fun o1 hl1 h=>.cutK 3 (fun (e2:Option Addr × Nat)=>[.s 3 (.slice e2.1 o1.length e2.2)]) (fun e2=>[.res (xK (yL xQ) 107 e2.1 e2.2 o1),1]) rfl rfl ?_ ?_
 ·refine .block<|.loopQ hl1 1 (fun (s1:List zF × Int) (e1:Option Addr × Nat)=>[0, .s 3 (.slice e1.1 s1.1.length e1.2),8,9, .s 10 (.int .i64 s1.2)]) (fun s1 e1=>[.res (xK (yL xQ) 107 e1.1 e1.2 s1.1)]) rfl rfl (none,0) (zb rfl) (fun _ w=>w) ?_;rintro s1 ⟨A2,c2⟩ st1 hm1 hd1 h1;refine .ae rfl<|.seq<|.cb h1 rfl (fun h1=>?_) (fun h1=>?_)
  ·refine .sk<|.pr [0,3,8,9,10] rfl<|.seq<|.block<|.seq<|.region<|.bd h1 fun x1 hx1 h1=>.ix2 hx1 2 rfl fun g2 hA=>?_;subst hA;refine .ldO 0 hx1 rfl rfl (zm 2 rfl) rfl rfl<|.b [0,3,5,8,9,10] rfl<|.region<|.n 4 rfl<|.lookupV (K:=(yF .u8)) (E:=(cod eu8)) x1 rfl rfl rfl (.tail _ (.head _)) rfl rfl rfl rfl rfl rfl fun A4 c4=>.bd h1 fun r3 hr3 h1=>.cr 5 [0] [] 0 (yM hr3) bO rfl fun A5 c5=>.p rfl rfl<|.bS rfl fun g3=>.bd h1 fun l1 hl1 h1=>.asrt (fun _ w=>(w.sl [1] 0 rfl).meltL)<|.appC (E:=(yL xQ)) hl1 rfl rfl rfl (.s (.s (.s .z))) rfl rfl rfl rfl rfl rfl rfl rfl (zDR (ls:=xQ) [((⟨x1,r3,false⟩:zF),((A5,c5),()))] (.tail _ (.head _)) rfl rfl rfl ⟨(.head _),trivial⟩) rfl rfl fun A6 c6=>.p rfl rfl<|.done<|.blkN<|.thenN<|.pf [0,3,8,9,10] [0] 3 rfl rfl<|.region ?_;cases h1;exact .be rfl<|.ag (A6,c6) hm1 rfl zw
  refine .xq rfl ?_;cases h1;cases hd1 _ rfl
  exact .thenN<|.hE (A2,c2) rfl (zl [0,0] 1 rfl)
 rintro ⟨A3,c3⟩;refine .ab [2] rfl ?_;cases h;exact .rv rfl rfl ⟨A3,c3,rfl,rfl⟩ (zl [1] 0 rfl)
theorem zWj:Ent Tryz.prog 192:=en Tryz.func192 (by kernel_rfl)
noncomputable def uV (s_p0:zC) (next:(Option (List (Int × (List Int))))) (s_p0_d:zA):Option (zC × zA × Int):=
 bif (s_p0.generation==2147483648) then (some (s_p0,s_p0_d,3)) else (bnd ((bif (s_p0.active==0) then (some 1) else (some 0):Option Int)) fun o1=>bnd (fQ s_p0.d) fun bb1=>bnd (yI s_p0_d) fun r1=>bnd (fQ s_p0.d) fun bb2=>bnd (yI s_p0_d) fun r2=>bnd (uK s_p0_d (IntKind.wrap .i64 ((IntKind.wrap .i64 (s_p0.first+o1))*r1)) r2) fun r3=>bnd ((bnd ((bif (r3.2.2==0) then (bnd (qP r3.2.1) fun r4=>some (!r4)) else (some false):Option Bool)) fun o3=>bif o3 then (bnd (fQ s_p0.d) fun bb3=>bnd (rS r3.1 (IntKind.wrap .i64 (s_p0.first+o1))) fun r5=>some (r5.2,r5.1)) else (some (r3.2.2,r3.1)):Option (Int × zA))) fun o2=>bnd ((bif (o2.1==0) then (bnd (fQ s_p0.d) fun bb4=>bnd (wJ o2.2 (IntKind.wrap .i64 ((IntKind.wrap .i64 (s_p0.first+o1))*r1)) ([IntKind.wrap .u8 (IntKind.wrap .i64 (s_p0.generation+1)),IntKind.wrap .u8 (uD .i64 (IntKind.wrap .i64 (s_p0.generation+1)) 8),IntKind.wrap .u8 (uD .i64 (IntKind.wrap .i64 (s_p0.generation+1)) 16),IntKind.wrap .u8 (uD .i64 (IntKind.wrap .i64 (s_p0.generation+1)) 24)])) fun r6=>some (r6.2,r6.1)) else (some (o2.1,o2.2)):Option (Int × zA))) fun o4=>bnd ((bnd ((bif (o4.1==0) then (some (decide ((((next.getD []).length:Nat):Int)>0))) else (some false):Option Bool)) fun o6=>bif o6 then (bnd (vB next) fun r7=>bnd (rN r7) fun r8=>bnd (fQ s_p0.d) fun bb5=>bnd (wJ o4.2 (IntKind.wrap .i64 ((IntKind.wrap .i64 ((IntKind.wrap .i64 (s_p0.first+o1))*r1))+5)) r8) fun r9=>some (IntKind.wrap .i64 (5+(r8.length:Int)),r9.2,r9.1)) else (some (5,o4.1,o4.2)):Option (Int × Int × zA))) fun o5=>bnd ((bif (o5.2.1==0) then (bnd (fQ s_p0.d) fun bb6=>bnd (wJ o5.2.2 (IntKind.wrap .i64 ((IntKind.wrap .i64 ((IntKind.wrap .i64 (s_p0.first+o1))*r1))+4)) ([0])) fun r10=>some (r10.2,r10.1)) else (some (o5.2.1,o5.2.2)):Option (Int × zA))) fun o7=>bif (o7.1==0) then (some ((⟨s_p0.d,s_p0.first,o1,IntKind.wrap .i64 (s_p0.generation+1),next,o5.1,true,s_p0.ended⟩:zC),o7.2,o7.1)) else (some (s_p0,o7.2,o7.1)))
theorem bY {s_p0 next s_p0_d A1 c1 A2 c2 M1 M2 gb1 gb2 r} (h:uV s_p0 next s_p0_d=some r):
    Fun Tryz.prog 192 [.pointer (some ⟨gb1,0,none⟩), .map M2] [.res (Box gb1 135 (zO s_p0 gb2 M1)), .res (yO (yF .u8) (cod eu8) M1 s_p0.all), .res (yO (yF .u8) (cod eu8) M2 next), .res (Box gb2 131 (zG s_p0_d A1 c1 A2 c2)), .res (zM eu8 5 A1 c1 s_p0_d.bytes), .res (zM yH 3 A2 c2 s_p0_d.wear)] (fun v F=>∃ M3 A3 c3 A4 c4,v= .int .i64 r.2.2∧F= [.res (Box gb1 135 (zO r.1 gb2 M3)), .res (yO (yF .u8) (cod eu8) M3 r.1.all), .res (Box gb2 131 (zG r.2.1 A3 c3 A4 c4)), .res (zM eu8 5 A3 c3 r.2.1.bytes), .res (zM yH 3 A4 c4 r.2.1.wear)]):=by
 refine Fun.intro Tryz.func192 rfl rfl rfl fun w R=>?_;refine .ab [0,1] rfl<|.seq<|.a 3 rfl<|.lb 3 0 rfl<|.b [0,1,16] rfl<|.cb h rfl (fun h=>?_) (fun h=>?_)
 ·refine .ab [4] rfl ?_;cases h;exact .rv rfl rfl ⟨M1,A1,c1,A2,c2,rfl,rfl⟩ (zl [0,0] 1 rfl)
 refine .sk<|.pr [0,1] rfl<|.seq<|.regionF mixed (by kernel_rfl)<|.n 3 rfl<|.lb 3 0 rfl<|.bq [0,1,5,6,7] rfl<|.seq<|.bd h fun o1 hj1 h=>.cu 0 [0,1, .s 5 (.int .i64 o1),6,7] [] rfl rfl ?_ ?_
 ·refine .a 3 rfl<|.lb 2 0 rfl<|.b [0,1,5,6,7,26] rfl<|.cb hj1 rfl (fun hj1=>?_) (fun hj1=>?_)
  ·refine .region ?_;cases hj1;exact .be rfl<|.hU rfl zw
  cases hj1;exact .sk<|.hU rfl zw
 refine .seq<|.regionX (iN [0,4,8,12,16,20,24,28,32,37,43,44,48] .nil) _ mixed (by kernel_rfl) zw<|.yn 3 rfl<|.yl 1 0 rfl<|.yn 5 rfl<|.yx 0 0 rfl<|.xef<|.bd h fun bb1 hbb1 h=>?_;refine .ss 36 (kF hbb1)<|.bd h fun r1 hr1 h=>.cq 6 [] [3,3,3] 0 (vE hr1) zGb rfl<|.xk (zl [3,3,3] 0 rfl)<|.yn 2 rfl<|.xdone<|.thenN<|.pr [0,1,5,6,7,8] rfl<|.seq<|.regionX (iN [0,4,8,12,16,20,24,28,33,39,43,44,48,52,56,60] .nil) _ mixed (by kernel_rfl) (zl [] 3 rfl)<|.yn 3 rfl<|.yl 0 0 rfl<|.yn 4 rfl<|.yx 0 3 rfl<|.xef<|.bd h fun bb2 hbb2 h=>?_;refine .ss 43 (kF hbb2) ?_;refine .ss 48 (kF hbb2)<|.bd h fun r2 hr2 h=>.cq 6 [] [] 0 (vE hr2) zGb rfl<|.xk (zl [] 3 rfl)<|.xef<|.bd h fun r3 hr3 h=>.call (iY hr3) zUK rfl rfl rfl (fun _ w=>w) ?_;rintro _ _ ⟨A3,c3,A4,c4,A5,c5,rfl,rfl⟩;refine .nm 7 rfl<|.xk (zl [] 4 rfl)<|.yn 5 rfl<|.xdone<|.thenN<|.pr [0,1,5,6,7,8,9,10] rfl<|.seq<|.bd h fun o2 hj2 h=>.cutK 4 (fun (e2:Option Addr × Nat × Option Addr × Nat)=>[0,1,5,6,7,8, .s 10 (.int .i64 o2.1)]) (fun e2=>[.res (zM yH 3 e2.2.2.1 e2.2.2.2 o2.2.wear), .res (zM eu8 5 e2.1 e2.2.1 o2.2.bytes), .res (Box gb2 131 (zG o2.2 e2.1 e2.2.1 e2.2.2.1 e2.2.2.2))]) rfl rfl ?_ ?_
 ·refine .seq<|.bd hj2 fun o3 hj3 hj2=>.cu 4 [0,1,5,6,7,8,10, .s 59 (.bool o3)] [0,1,2] rfl rfl ?_ ?_
  ·refine .region<|.n 3 rfl<|.gs 55 hj3 rfl (fun hj3=>?_) (fun hj3=>?_)
   ·refine .n 1 rfl<|.gOn rfl rfl<|.asrt (fun _ w=>(w.sl [3] 0 rfl).meltL)<|.bd hj3 fun r4 hr4 hj3=>.cv [0] (dU hr4) zQM rfl ?_;cases hj3;exact .be rfl<|.hU rfl (zl [] 1 rfl)
   cases hj3;exact .be rfl<|.hU rfl (zl [0,0,0] 1 rfl)
  refine .cb hj2 rfl (fun hj2=>?_) (fun hj2=>?_)
  ·refine .regionX (iN [0,4,8,13,16,20,24,29,32,36,43,44] .nil) _ mixed (by kernel_rfl) (zl [] 3 rfl)<|.yn 3 rfl<|.yx 0 3 rfl<|.yn 3 rfl<|.yx 1 3 rfl<|.yn 2 rfl<|.xef<|.bd hj2 fun bb3 hbb3 hj2=>?_;refine .ss 63 (kF hbb3)<|.bd hj2 fun r5 hr5 hj2=>.ct 6 [] [] 0 (zAb hr5) zVV rfl fun A8 c8 A9 c9=>.xk (zl [] 3 rfl)<|.yn 1 rfl<|.xdone ?_;cases hj2;exact .thenN<|.hE (A8,c8,A9,c9) rfl (zl [2,1] 0 rfl)
  cases hj2;exact .sk<|.hE (A3,c3,A4,c4) rfl (zl [2,1] 0 rfl)
 rintro ⟨A6,c6,A7,c7⟩;refine .seq<|.bd h fun o4 hj4 h=>.cutK 3 (fun (e4:Option Addr × Nat × Option Addr × Nat)=>[0,1,5,6,7,8, .s 10 (.int .i64 o4.1)]) (fun e4=>[.res (zM yH 3 e4.2.2.1 e4.2.2.2 o4.2.wear), .res (zM eu8 5 e4.1 e4.2.1 o4.2.bytes), .res (Box gb2 131 (zG o4.2 e4.1 e4.2.1 e4.2.2.1 e4.2.2.2))]) rfl rfl ?_ ?_
 ·refine .ab [0,1,5,6,7,8,10,72] rfl<|.cb hj4 rfl (fun hj4=>?_) (fun hj4=>?_)
  ·refine .region<|.n 3 rfl<|.lb 0 3 rfl<|.n 12 rfl<|.bS rfl fun g1=>.bd hj4 fun bb4 hbb4 hj4=>?_;refine .ss 76 (kF hbb4)<|.asrt (fun _ w=>w.litL (E:=eu8) (e:=5) [IntKind.wrap .u8 (IntKind.wrap .i64 (s_p0.generation+1)),IntKind.wrap .u8 (uD .i64 (IntKind.wrap .i64 (s_p0.generation+1)) 8),IntKind.wrap .u8 (uD .i64 (IntKind.wrap .i64 (s_p0.generation+1)) 16),IntKind.wrap .u8 (uD .i64 (IntKind.wrap .i64 (s_p0.generation+1)) 24)] rfl rfl)<|.asrt (fun _ w=>w.meltL)<|.bd hj4 fun r6 hr6 hj4=>.ct 7 [3] [3,2,1] 0 (tY hr6) zJa rfl fun A12 c12 A13 c13=>?_;cases hj4;exact .be rfl<|.hE (A12,c12,A13,c13) rfl (zl [2,1,0] 1 rfl)
  cases hj4;exact .sk<|.hE (A6,c6,A7,c7) rfl zw
 rintro ⟨A10,c10,A11,c11⟩;refine .seq<|.bd h fun o5 hj5 h=>.cutK 3 (fun (e5:Option Addr × Nat × Option Addr × Nat)=>[0,1,5,6, .s 7 (.int .i64 o5.1),8, .s 10 (.int .i64 o5.2.1)]) (fun e5=>[.res (zM yH 3 e5.2.2.1 e5.2.2.2 o5.2.2.wear), .res (zM eu8 5 e5.1 e5.2.1 o5.2.2.bytes), .res (Box gb2 131 (zG o5.2.2 e5.1 e5.2.1 e5.2.2.1 e5.2.2.2))]) rfl rfl ?_ ?_
 ·refine .seq<|.bd hj5 fun o6 hj6 hj5=>.cu 0 [0,1,5,6,7,8,10, .s 97 (.bool o6)] [] rfl rfl ?_ ?_
  ·refine .region<|.n 3 rfl<|.gs 93 hj6 rfl (fun hj6=>?_) (fun hj6=>?_)
   ·refine .n 1 rfl<|.gOn rfl rfl<|.mapLenV (K:=(yF .u8)) (E:=(cod eu8)) rfl rfl (zm 5 rfl) rfl rfl rfl ?_;cases hj6;exact .be rfl<|.hU rfl zw
   cases hj6;exact .be rfl<|.hU rfl zw
  refine .cb hj5 rfl (fun hj5=>?_) (fun hj5=>?_)
  ·refine .a 1 rfl<|.bd hj5 fun r7 hr7 hj5=>.cr 7 [] [5] 0 (fO hr7) zVE rfl fun A16 c16=>.asrt (fun _ w=>(w.sl [1] 0 rfl).meltC)<|.bd hj5 fun r8 hr8 hj5=>.cr 8 [0] [] 0 (eG hr8) zSC rfl fun A17 c17=>.bf [0,1,5,6,7,8,11] [0] 1 rfl rfl<|.ab [0,1,5,6,7,8,11] rfl<|.region<|.n 3 rfl<|.lb 0 5 rfl<|.n 3 rfl<|.bd hj5 fun bb5 hbb5 hj5=>?_;refine .ss 108 (kF hbb5)<|.asrt (fun _ w=>w.meltL)<|.bd hj5 fun r9 hr9 hj5=>.ct 7 [3] [4,3,2] 0 (tY hr9) zJa rfl fun A18 c18 A19 c19=>?_;cases hj5;exact .be rfl<|.hE (A18,c18,A19,c19) rfl (zl [2,1,0,2,2] 1 rfl)
  cases hj5;exact .sk<|.hE (A10,c10,A11,c11) rfl zw
 rintro ⟨A14,c14,A15,c15⟩;refine .seq<|.bd h fun o7 hj7 h=>.cutK 3 (fun (e7:Option Addr × Nat × Option Addr × Nat)=>[0,1,5,6,7, .s 10 (.int .i64 o7.1)]) (fun e7=>[.res (zM yH 3 e7.2.2.1 e7.2.2.2 o7.2.wear), .res (zM eu8 5 e7.1 e7.2.1 o7.2.bytes), .res (Box gb2 131 (zG o7.2 e7.1 e7.2.1 e7.2.2.1 e7.2.2.2))]) rfl rfl ?_ ?_
 ·refine .ab [0,1,5,6,7,8,10,114] rfl<|.cb hj7 rfl (fun hj7=>?_) (fun hj7=>?_)
  ·refine .region<|.n 3 rfl<|.lb 0 3 rfl<|.n 2 rfl<|.bS rfl fun g2=>.bd hj7 fun bb6 hbb6 hj7=>?_;refine .ss 118 (kF hbb6)<|.asrt (fun _ w=>w.litL (E:=eu8) (e:=5) [0] rfl rfl)<|.asrt (fun _ w=>w.meltL)<|.bd hj7 fun r10 hr10 hj7=>.ct 7 [3] [3,2,1] 0 (tY hr10) zJa rfl fun A22 c22 A23 c23=>?_;cases hj7;exact .be rfl<|.hE (A22,c22,A23,c23) rfl (zl [2,1,0] 1 rfl)
  cases hj7;exact .sk<|.hE (A14,c14,A15,c15) rfl zw
 rintro ⟨A20,c20,A21,c21⟩;refine .seq<|.ab [0,1,5,6,7,10,124] rfl<|.cb h rfl (fun h=>?_) (fun h=>?_)
 ·refine .region<|.n 11 rfl<|.sb 2 3 rfl<|.n 2 rfl<|.sb 3 0 rfl<|.n 2 rfl<|.sb 4 0 rfl<|.n 2 rfl<|.sb 5 0 rfl<|.n 2 rfl<|.sb 6 0 rfl<|.bf [10] [0,0,0,0] 1 rfl rfl<|.ab [4] rfl ?_;cases h;exact .rv rfl rfl ⟨M2,A20,c20,A21,c21,rfl,rfl⟩ (zl [0,3,2,1] 0 rfl)
 refine .sk<|.pr [10] rfl<|.ab [4] rfl ?_;cases h;exact .rv rfl rfl ⟨M1,A20,c20,A21,c21,rfl,rfl⟩ (zl [3,3,2,1,0] 1 rfl)
theorem zTk:Ent Tryz.prog 105:=en Tryz.func105 (by kernel_rfl)
noncomputable def zS (s_p0:zC) (l_p1:(List zF)) (s_p0_d:zA):Option (zC × zA × Int):=
 bnd ((bif s_p0.ended then (some true) else (bnd (fQ s_p0.d) fun bb1=>bnd (qH s_p0_d) fun r1=>some r1):Option Bool)) fun o1=>bif o1 then (some ((⟨false,0,0,0,none,0,false,true⟩:zC),s_p0_d,10)) else (bnd (nJ l_p1) fun r2=>bnd ((bif (r2 != 0) then (some true) else (some ((l_p1.length:Int)==0)):Option Bool)) fun o2=>bif o2 then (some (s_p0,s_p0_d,r2)) else (bnd (wO s_p0.all l_p1) fun r3=>bif decide ((((r3.getD []).length:Nat):Int)>32) then (some (s_p0,s_p0_d,3)) else (bnd (rN l_p1) fun r4=>bnd ((bif decide (s_p0.active≥0) then (bif s_p0.clean then (bnd (fQ s_p0.d) fun bb2=>bnd (yI s_p0_d) fun r5=>some (decide ((r4.length:Int)≤(IntKind.wrap .i64 (r5 - s_p0.tail))))) else (some false)) else (some false):Option Bool)) fun o3=>bif o3 then (bnd (fQ s_p0.d) fun bb3=>bnd (yI s_p0_d) fun r6=>bnd (wJ s_p0_d (IntKind.wrap .i64 ((IntKind.wrap .i64 ((IntKind.wrap .i64 (s_p0.first+s_p0.active))*r6))+s_p0.tail)) r4) fun r7=>bif (r7.2==0) then (bif (r7.2==10) then (some ((⟨false,0,0,0,none,0,false,true⟩:zC),r7.1,r7.2)) else (some ((⟨s_p0.d,s_p0.first,s_p0.active,s_p0.generation,r3,IntKind.wrap .i64 (s_p0.tail+(r4.length:Int)),s_p0.clean,s_p0.ended⟩:zC),r7.1,r7.2))) else (bif (r7.2==10) then (some ((⟨false,0,0,0,none,0,false,true⟩:zC),r7.1,r7.2)) else (some (s_p0,r7.1,r7.2)))) else (bnd (uV s_p0 r3 s_p0_d) fun r8=>bif (r8.2.2==10) then (some ((⟨false,0,0,0,none,0,false,true⟩:zC),r8.2.1,r8.2.2)) else (some (r8.1,r8.2.1,r8.2.2))))))
theorem lG {s_p0 l_p1 s_p0_d A1 c1 A2 c2 A3 c3 M1 gb1 gb2 r} (h:zS s_p0 l_p1 s_p0_d=some r):
    Fun Tryz.prog 105 [.pointer (some ⟨gb1,0,none⟩), .slice A1 l_p1.length c1] [.ro (Sl (yL xQ) A1 c1 l_p1), .res (Box gb1 135 (zO s_p0 gb2 M1)), .res (yO (yF .u8) (cod eu8) M1 s_p0.all), .res (Box gb2 131 (zG s_p0_d A2 c2 A3 c3)), .res (zM eu8 5 A2 c2 s_p0_d.bytes), .res (zM yH 3 A3 c3 s_p0_d.wear)] (fun v F=>∃ M2 A4 c4 A5 c5,v= .int .i64 r.2.2∧F= [.res (Box gb1 135 (zO r.1 gb2 M2)), .res (yO (yF .u8) (cod eu8) M2 r.1.all), .res (Box gb2 131 (zG r.2.1 A4 c4 A5 c5)), .res (zM eu8 5 A4 c4 r.2.1.bytes), .res (zM yH 3 A5 c5 r.2.1.wear)]):=by
 refine Fun.intro Tryz.func105 rfl rfl rfl fun w R=>?_;refine .ab [0,1] rfl<|.seq<|.seq<|.bd h fun o1 hj1 h=>.cu 0 [0,1, .s 19 (.bool o1)] [] rfl rfl ?_ ?_
 ·refine .region<|.n 3 rfl<|.lb 7 1 rfl<|.p rfl rfl<|.gs 13 hj1 rfl (fun hj1=>?_) (fun hj1=>?_)
  ·cases hj1;exact .be rfl<|.hU rfl zw
  refine .n 3 rfl<|.gOn rfl rfl<|.lb 0 1 rfl<|.gOn rfl rfl<|.bd hj1 fun bb1 hbb1 hj1=>?_;refine .ss 17 (kF hbb1)<|.bd hj1 fun r1 hr1 hj1=>.cq 6 [] [3,3,3] 0 (zAT hr1) zWJ rfl ?_;cases hj1;exact .be rfl<|.hU rfl (zl [3,3,3] 0 rfl)
 refine .cb h rfl (fun h=>?_) (fun h=>?_)
 ·refine .a 3 rfl<|.sb 0 1 rfl<|.bf [] [0] 2 rfl rfl<|.ae rfl<|.asrt (fun _ w=>w.nilV (yF .u8) (cod eu8)) ?_;cases h;exact .rv rfl rfl ⟨none,A2,c2,A3,c3,rfl,rfl⟩ (zl [1] 0 rfl)
 refine .sk<|.pr [0,1] rfl<|.seq<|.a 1 rfl<|.bd h fun r2 hr2 h=>.cv [0] (zDH hr2) zWR rfl<|.b [0,1,5] rfl<|.seq<|.bd h fun o2 hj2 h=>.cu 0 [0,1,5, .s 31 (.bool o2)] [] rfl rfl ?_ ?_
 ·refine .region<|.n 3 rfl<|.gs 27 hj2 rfl (fun hj2=>?_) (fun hj2=>?_)
  ·cases hj2;exact .be rfl<|.hU rfl zw
  cases hj2;exact .be rfl<|.hU rfl zw
 refine .cb h rfl (fun h=>?_) (fun h=>?_)
 ·refine .abf [4] [] 1 rfl rfl ?_;cases h;exact .rv rfl rfl ⟨M1,A2,c2,A3,c3,rfl,rfl⟩ zw
 refine .sk<|.pr [0,1] rfl<|.a 3 rfl<|.lb 4 1 rfl<|.p rfl rfl<|.bd h fun r3 hr3 h=>.call (mG hr3) zSo rfl rfl rfl (zd [1] [2] 0 rfl) ?_;rintro _ _ ⟨M2,rfl,rfl⟩;refine .nm 7 rfl<|.b [0,1,6] rfl<|.seq<|.a 1 rfl<|.mapLenV (K:=(yF .u8)) (E:=(cod eu8)) rfl rfl (.tail _ (.head _)) rfl rfl rfl<|.b [0,1,6,41] rfl<|.cb h rfl (fun h=>?_) (fun h=>?_)
 ·refine .abf [4] [0] 2 rfl rfl ?_;cases h;exact .rv rfl rfl ⟨M1,A2,c2,A3,c3,rfl,rfl⟩ (zl [1] 0 rfl)
 refine .sk<|.pr [0,1,6] rfl<|.a 1 rfl<|.bd h fun r4 hr4 h=>.cr 8 [2] [] 0 (eG hr4) zSC rfl fun A4 c4=>.bf [0,6,7] [0,0,0] 1 rfl rfl<|.ab [0,6,7] rfl<|.seq<|.seq<|.bd h fun o3 hj3 h=>.cu 0 [0,6,7, .s 69 (.bool o3)] [] rfl rfl ?_ ?_
 ·refine .regionX (iN [0,4,8,13,16,20,24,28,32,37,40,44,48,52,56,60,64,69,76,80,84,88,75,92,96,100] .nil) _ mixed (by kernel_rfl) zw<|.yn 3 rfl<|.yx 2 3 rfl<|.yn 2 rfl<|.sB 49 hj3 rfl (fun hj3=>?_) (fun hj3=>?_)
  ·refine .yn 3 rfl<|.xgOn rfl rfl<|.yx 6 3 rfl<|.yn 2 rfl<|.sB 55 hj3 rfl (fun hj3=>?_) (fun hj3=>?_)
   ·refine .yn 5 rfl<|.xgOn rfl rfl<|.yx 0 3 rfl<|.yn 3 rfl<|.xgOn rfl rfl<|.yl 5 3 rfl<|.xgOn rfl rfl<|.xef<|.bd hj3 fun bb2 hbb2 hj3=>?_;refine .ss 61 (kF hbb2)<|.bd hj3 fun r5 hr5 hj3=>.cq 7 [] [4,4,4] 0 (vE hr5) zGb rfl<|.xk (zl [3,3,3,3] 0 rfl)<|.yn 3 rfl<|.xdone ?_;cases hj3;exact .thenN<|.hU rfl (zl [3,3,3,3] 0 rfl)
   refine .yn 14 rfl<|.xdone ?_;cases hj3;exact .thenN<|.hU rfl zw
  refine .yn 20 rfl<|.xdone ?_;cases hj3;exact .thenN<|.hU rfl zw
 refine .cb h rfl (fun h=>?_) (fun h=>?_)
 ·refine .seq<|.regionX (iN [0,4,8,12,16,20,24,28,32,36,40,44,48,52,56,60,65,76,80,84,88,96,71,72,92,103,104] .nil) _ mixed (by kernel_rfl) (zl [1,1,1] 4 rfl)<|.yn 3 rfl<|.yl 0 2 rfl<|.yn 3 rfl<|.yl 1 2 rfl<|.yn 3 rfl<|.yl 2 2 rfl<|.yn 4 rfl<|.yx 0 3 rfl<|.yn 3 rfl<|.yl 5 2 rfl<|.yn 1 rfl<|.xef<|.bd h fun bb3 hbb3 h=>?_;refine .ss 73 (kF hbb3) ?_;refine .ss 86 (kF hbb3)<|.bd h fun r6 hr6 h=>.cq 7 [] [4,4,4] 0 (vE hr6) zGb rfl<|.xk (zl [] 4 rfl)<|.yn 2 rfl<|.xef<|.asrt (fun _ w=>(w.sl [3] 0 rfl).meltL)<|.bd h fun r7 hr7 h=>.ct 7 [3] [1,1,1] 0 (tY hr7) zJa rfl fun A5 c5 A6 c6=>.xk (zl [] 4 rfl)<|.yn 1 rfl<|.xdone<|.thenN<|.pr [0,6,7,8] rfl<|.ab [0,6,7,8,97] rfl<|.cb h rfl (fun h=>?_) (fun h=>?_)
  ·refine .region<|.n 6 rfl<|.lb 5 6 rfl<|.n 5 rfl<|.sb 4 6 rfl<|.n 2 rfl<|.sb 5 0 rfl<|.bf [0,8] [0,0,0,0] 2 rfl rfl<|.seq<|.ab [0,8,116] rfl<|.cb h rfl (fun h=>?_) (fun h=>?_)
   ·refine .region<|.n 3 rfl<|.sb 0 0 rfl<|.bf [8] [0,0,0,0] 1 rfl rfl<|.ab [4] rfl<|.asrt (fun _ w=>w.nilV (yF .u8) (cod eu8)) ?_;cases h;exact .rv rfl rfl ⟨none,A5,c5,A6,c6,rfl,rfl⟩ (zl [1] 0 rfl)
   refine .sk<|.pr [8] rfl<|.ab [4] rfl ?_;cases h;exact .rv rfl rfl ⟨M2,A5,c5,A6,c6,rfl,rfl⟩ (zl [0,3] 0 rfl)
  refine .sk<|.pf [0,8] [0,0,0,1] 2 rfl rfl<|.seq<|.ab [0,8,116] rfl<|.cb h rfl (fun h=>?_) (fun h=>?_)
  ·refine .region<|.n 3 rfl<|.sb 0 4 rfl<|.bf [8] [0,0,0,0] 1 rfl rfl<|.ab [4] rfl<|.asrt (fun _ w=>w.nilV (yF .u8) (cod eu8)) ?_;cases h;exact .rv rfl rfl ⟨none,A5,c5,A6,c6,rfl,rfl⟩ (zl [1] 0 rfl)
  refine .sk<|.pr [8] rfl<|.ab [4] rfl ?_;cases h;exact .rv rfl rfl ⟨M1,A5,c5,A6,c6,rfl,rfl⟩ (zl [4,3] 0 rfl)
 refine .region<|.n 2 rfl<|.bd h fun r8 hr8 h=>.call (bY (gb1:=gb1) (gb2:=gb2) hr8) zWj rfl rfl rfl (zl [3,1,1,1,1,1] 0 rfl) ?_;rintro _ _ ⟨M3,A7,c7,A8,c8,rfl,rfl⟩;refine .nm 6 rfl<|.bf [0,8] [0,0,0,0,0] 1 rfl rfl<|.seq<|.ab [0,8,116] rfl<|.cb h rfl (fun h=>?_) (fun h=>?_)
 ·refine .region<|.n 3 rfl<|.sb 0 0 rfl<|.bf [8] [0] 1 rfl rfl<|.ab [4] rfl<|.asrt (fun _ w=>w.nilV (yF .u8) (cod eu8)) ?_;cases h;exact .rv rfl rfl ⟨none,A7,c7,A8,c8,rfl,rfl⟩ (zl [1] 0 rfl)
 refine .sk<|.pr [8] rfl<|.ab [4] rfl ?_;cases h;exact .rv rfl rfl ⟨M3,A7,c7,A8,c8,rfl,rfl⟩ zw
theorem zVS:Ent Tryz.prog 226:=en Tryz.func226 (by kernel_rfl)
noncomputable def qK (s_p0:zC) (key:Int) (s_p0_d:zA):Option (zC × zA × Int):=
 bnd (zS s_p0 ([(⟨key, [],true⟩:zF)]) s_p0_d) fun r1=>some (r1.1,r1.2.1,r1.2.2)
theorem dF {s_p0 key s_p0_d A1 c1 A2 c2 M1 gb1 gb2 r} (h:qK s_p0 key s_p0_d=some r):
    Fun Tryz.prog 226 [.pointer (some ⟨gb1,0,none⟩), .int .u8 key] [.res (Box gb1 135 (zO s_p0 gb2 M1)), .res (yO (yF .u8) (cod eu8) M1 s_p0.all), .res (Box gb2 131 (zG s_p0_d A1 c1 A2 c2)), .res (zM eu8 5 A1 c1 s_p0_d.bytes), .res (zM yH 3 A2 c2 s_p0_d.wear)] (fun v F=>∃ M2 A3 c3 A4 c4,v= .int .i64 r.2.2∧F= [.res (Box gb1 135 (zO r.1 gb2 M2)), .res (yO (yF .u8) (cod eu8) M2 r.1.all), .res (Box gb2 131 (zG r.2.1 A3 c3 A4 c4)), .res (zM eu8 5 A3 c3 r.2.1.bytes), .res (zM yH 3 A4 c4 r.2.1.wear)]):=by
 refine Fun.intro Tryz.func226 rfl rfl rfl fun w R=>?_;refine .ab [0,1] rfl<|.a 3 rfl<|.bS rfl fun g1=>.asrt (fun _ w=>w.nilSl (cod eu8))<|.asrt (fun _ w=>Sat.litC (ls:=xQ) (e:=107) [((⟨key, [],true⟩:zF),((none,0),()))] rfl rfl rfl ⟨(.head _),trivial⟩ (w.sl [1] 0 rfl))<|.asrt (fun _ w=>w.meltC)<|.bd h fun r1 hr1 h=>.call (lG (gb1:=gb1) (gb2:=gb2) hr1) zTk rfl rfl rfl (zd [5] [2,2,2,2,2] 0 rfl) ?_;rintro _ _ ⟨M2,A3,c3,A4,c4,rfl,rfl⟩;refine .nm 7 rfl<|.bf [4] [0,0,0,0,0] 2 rfl rfl ?_;cases h;exact .rv rfl rfl ⟨M2,A3,c3,A4,c4,rfl,rfl⟩ zw
theorem zNl:Ent Tryz.prog 148:=en Tryz.func148 (by kernel_rfl)
noncomputable def vR (a_p0:zD) (a_p0_store:zC) (a_p0_store_d:zA):Option (zD × zC × zA × Int):=
 bnd (fQ a_p0.store) fun bb1=>bnd (qK a_p0_store 32 a_p0_store_d) fun r1=>bif (r1.2.2 != 0) then (some (a_p0,r1.1,r1.2.1,r1.2.2)) else (some ((⟨a_p0.store,a_p0.devices,a_p0.needs,0,a_p0.load,a_p0.before, []⟩:zD),r1.1,r1.2.1,0))
theorem mQ {a_p0 a_p0_store a_p0_store_d A1 c1 A2 c2 A3 c3 A4 c4 A5 c5 A6 c6 A7 c7 M1 gb1 gb2 gb3 r} (h:vR a_p0 a_p0_store a_p0_store_d=some r):
    Fun Tryz.prog 148 [.pointer (some ⟨gb1,0,none⟩)] [.ro (SlL zR A2 c2 a_p0.needs), .ro (SlL yU A3 c3 a_p0.load.Have), .ro (SlL eu8 A4 c4 a_p0.load.Data), .ro (SlL yH A5 c5 a_p0.order), .res (Box gb1 144 (zI a_p0 gb2 A1 c1 A2 c2 A3 c3 A4 c4 A5 c5)), .res (xK (yL zE) 64 A1 c1 a_p0.devices), .res (Box gb2 135 (zO a_p0_store gb3 M1)), .res (yO (yF .u8) (cod eu8) M1 a_p0_store.all), .res (Box gb3 131 (zG a_p0_store_d A6 c6 A7 c7)), .res (zM eu8 5 A6 c6 a_p0_store_d.bytes), .res (zM yH 3 A7 c7 a_p0_store_d.wear)] (fun v F=>∃ A8 c8 A9 c9 A10 c10 A11 c11 A12 c12 M2 A13 c13 A14 c14,v= .int .i64 r.2.2.2∧F= [.ro (SlL zR A9 c9 r.1.needs), .ro (SlL yU A10 c10 r.1.load.Have), .ro (SlL eu8 A11 c11 r.1.load.Data), .ro (SlL yH A12 c12 r.1.order), .res (Box gb1 144 (zI r.1 gb2 A8 c8 A9 c9 A10 c10 A11 c11 A12 c12)), .res (xK (yL zE) 64 A8 c8 r.1.devices), .res (Box gb2 135 (zO r.2.1 gb3 M2)), .res (yO (yF .u8) (cod eu8) M2 r.2.1.all), .res (Box gb3 131 (zG r.2.2.1 A13 c13 A14 c14)), .res (zM eu8 5 A13 c13 r.2.2.1.bytes), .res (zM yH 3 A14 c14 r.2.2.1.wear)]):=by
 refine Fun.intro Tryz.func148 rfl rfl rfl fun w R=>?_;refine .ab [0] rfl<|.seq<|.a 3 rfl<|.lb 0 4 rfl<|.bd h fun bb1 hbb1 h=>?_;refine .ss 7 (kF hbb1)<|.bd h fun r1 hr1 h=>.call (dF (gb1:=gb2) (gb2:=gb3) hr1) zVS rfl rfl rfl (zl [6,6,6,6,6] 0 rfl) ?_;rintro _ _ ⟨M2,A8,c8,A9,c9,rfl,rfl⟩;refine .nm 11 rfl<|.b [0,3] rfl<|.ab [0,3,10] rfl<|.cb h rfl (fun h=>?_) (fun h=>?_)
 ·refine .ab [2] rfl ?_;cases h;exact .rv rfl rfl ⟨A1,c1,A2,c2,A3,c3,A4,c4,A5,c5,M2,A8,c8,A9,c9,rfl,rfl⟩ (zk 11 4 [7,8,9,10] [9,9] 0 rfl)
 refine .sk<|.pr [0] rfl<|.a 4 rfl<|.sb 3 9 rfl<|.n 2 rfl<|.sb 9 0 rfl<|.bf [] [0,0,0,0,0,0,0,0,0] 1 rfl rfl<|.ae rfl<|.asrt (fun _ w=>w.nilSl (cod yH)) ?_;cases h;exact .rv rfl rfl ⟨A1,c1,A2,c2,A3,c3,A4,c4,none,0,M2,A8,c8,A9,c9,rfl,rfl⟩ (zk 11 4 [8,9,10,7] [1,9,1,1,1,1,1] 0 rfl)
theorem zWT:Ent Tryz.prog 145:=en Tryz.func145 (by kernel_rfl)
noncomputable def rW (a_p0:zD) (i_p1:Int):Option Bool:=
 bnd (xV a_p0 i_p1) fun r1=>some (!r1)
theorem eM {a_p0 i_p1 A1 c1 A2 c2 A3 c3 A4 c4 A5 c5 gb1 gb2 r} (h:rW a_p0 i_p1=some r):
    Fun Tryz.prog 145 [.pointer (some ⟨gb1,0,none⟩), .int .i64 i_p1] [.ro (SlL zR A2 c2 a_p0.needs), .ro (SlL yU A3 c3 a_p0.load.Have), .ro (SlL eu8 A4 c4 a_p0.load.Data), .ro (SlL yH A5 c5 a_p0.order), .res (Box gb1 144 (zI a_p0 gb2 A1 c1 A2 c2 A3 c3 A4 c4 A5 c5)), .res (xK (yL zE) 64 A1 c1 a_p0.devices)] (fun v F=>v= .bool r∧F= [.res (Box gb1 144 (zI a_p0 gb2 A1 c1 A2 c2 A3 c3 A4 c4 A5 c5)), .res (xK (yL zE) 64 A1 c1 a_p0.devices)]):=by
 refine Fun.intro Tryz.func145 rfl rfl rfl fun w R=>?_;refine .ab [0,1] rfl<|.a 2 rfl<|.bd h fun r1 hr1 h=>.cq 6 [2,3,4,5] [4,4] 0 (pG (gb1:=gb1) hr1) zMf rfl<|.b [4] rfl ?_;cases h;exact .rv rfl rfl ⟨rfl,rfl⟩ (zl [0,0] 4 rfl)
noncomputable def yV (s_p0:(List Int)) (f_p1_b:zD):Option Int:=
 bnd (yG (τ:=Int ⊕ Unit) (fun (s1:Int)=>bif decide (s1<(s_p0.length:Int)) then (bnd (elt s_p0 s1) fun x1=>bnd (rW f_p1_b x1) fun r1=>bif r1 then (some (.done (.inl s1))) else (some (.next (IntKind.wrap .i64 (s1+1))))) else (some (.done (.inr ())))) 0) fun o1=>wT o1 fun o2=>some (-1)
theorem rQ {s_p0 f_p1_b A1 c1 A2 c2 A3 c3 A4 c4 A5 c5 A6 c6 gb1 gb2 r} (h:yV s_p0 f_p1_b=some r):
    Fun Tryz.prog 225 [.slice A1 s_p0.length c1, .func (.func 145) #[.pointer (some ⟨gb1,0,none⟩)] #[]] [.ro (SlL yH A1 c1 s_p0), .ro (SlL zR A3 c3 f_p1_b.needs), .ro (SlL yU A4 c4 f_p1_b.load.Have), .ro (SlL eu8 A5 c5 f_p1_b.load.Data), .ro (SlL yH A6 c6 f_p1_b.order), .res (Box gb1 144 (zI f_p1_b gb2 A2 c2 A3 c3 A4 c4 A5 c5 A6 c6)), .res (xK (yL zE) 64 A2 c2 f_p1_b.devices)] (fun v F=>v= .int .i64 r∧F= [.res (Box gb1 144 (zI f_p1_b gb2 A2 c2 A3 c3 A4 c4 A5 c5 A6 c6)), .res (xK (yL zE) 64 A2 c2 f_p1_b.devices)]):=by
 refine Fun.intro Tryz.func225 rfl rfl rfl fun w R=>?_;refine .ab [0,1] rfl<|.seq<|.ab [0,1,7,8] rfl<|.bd h fun o1 hl1 h=>.cutJ 1 (fun (o2:Unit) (e2:Unit)=>[]) (fun o2 e2=>[]) rfl rfl (fun o2=>o1= .inr o2) ?_ ?_
 ·refine .block<|.loopQ hl1 0 (fun (s1:Int) (e1:Unit)=>[0,1,7, .s 8 (.int .i64 s1)]) (fun s1 e1=>[]) rfl rfl () (zb rfl) (fun _ w=>w) ?_;rintro s1 e1 st1 hm1 hd1 h1;refine .ae rfl<|.seq<|.cb h1 rfl (fun h1=>?_) (fun h1=>?_)
  ·refine .sk<|.pr [0,1,7,8] rfl<|.seq<|.block<|.ab [0,1,5,7,8] rfl<|.a 3 rfl<|.bd h1 fun x1 hx1 h1=>.ix1 hx1 0 rfl fun b1 ob1=>.ld ob1 0 0 rfl<|.bd h1 fun r1 hr1 h1=>.callB (us:= [.pointer (some ⟨gb1,0,none⟩)]) (args:= [.int .i64 x1]) (eM (gb1:=gb1) hr1) zWT rfl rfl rfl (zd [4,5,6,7] [6,6] 0 rfl) ?_;rintro _ _ ⟨rfl,rfl⟩;refine .nm 8 rfl<|.bf [0,1,5,7,8,16] [0,0] 1 rfl rfl<|.cb h1 rfl (fun h1=>?_) (fun h1=>?_)
   ·refine .abf [4] [0,0] 1 rfl rfl ?_;cases h1;cases hd1 _ rfl
    have h:some _=some _:=h;cases h;exact .rv rfl rfl ⟨rfl,rfl⟩ (zl [0,0] 4 rfl)
   refine .skip<|.blkN<|.thenN<|.pr [0,1,7,8] rfl<|.region ?_;cases h1;exact .be rfl<|.ag () hm1 rfl (zl [2,2,2,2,2] 0 rfl)
  refine .xq rfl ?_;cases h1;cases hd1 _ rfl
  exact .thenN<|.hereI () () rfl trivial (zl [] 1 rfl)
 rintro o2 e2 ho;subst ho;have h:=unR h;refine .ae rfl ?_;cases h;exact .rv rfl rfl ⟨rfl,rfl⟩ (zl [] 4 rfl)
noncomputable def xN (s_p0:(List Int)) (f_p1_b:zD):Option Bool:=
 bnd (yV s_p0 f_p1_b) fun r1=>some (decide (r1≥0))
theorem mH {s_p0 f_p1_b A1 c1 A2 c2 A3 c3 A4 c4 A5 c5 A6 c6 gb1 gb2 r} (h:xN s_p0 f_p1_b=some r):
    Fun Tryz.prog 147 [.slice A1 s_p0.length c1, .func (.func 145) #[.pointer (some ⟨gb1,0,none⟩)] #[]] [.ro (SlL yH A1 c1 s_p0), .ro (SlL zR A3 c3 f_p1_b.needs), .ro (SlL yU A4 c4 f_p1_b.load.Have), .ro (SlL eu8 A5 c5 f_p1_b.load.Data), .ro (SlL yH A6 c6 f_p1_b.order), .res (Box gb1 144 (zI f_p1_b gb2 A2 c2 A3 c3 A4 c4 A5 c5 A6 c6)), .res (xK (yL zE) 64 A2 c2 f_p1_b.devices)] (fun v F=>v= .bool r∧F= [.res (Box gb1 144 (zI f_p1_b gb2 A2 c2 A3 c3 A4 c4 A5 c5 A6 c6)), .res (xK (yL zE) 64 A2 c2 f_p1_b.devices)]):=by
 refine Fun.intro Tryz.func147 rfl rfl rfl fun w R=>?_;refine .ab [0,1] rfl<|.a 2 rfl<|.bd h fun r1 hr1 h=>.cq 7 [2,3,4,5,6] [5,5] 0 (rQ (gb1:=gb1) hr1) zMU rfl<|.bf [4] [0,0] 1 rfl rfl ?_;cases h;exact .rv rfl rfl ⟨rfl,rfl⟩ (zl [0,0] 4 rfl)
theorem zRL:Ent Tryz.prog 67:=en Tryz.func67 (by kernel_rfl)
noncomputable def xA (a_p0:zD) (a_p0_store:zC) (a_p0_store_d:zA):Option (zD × zC × zA × Int):=
 bif (a_p0.phase==3) then (bnd (yQ a_p0.order a_p0) fun r1=>bif r1 then (some (a_p0,a_p0_store,a_p0_store_d,0)) else (bnd (vR a_p0 a_p0_store a_p0_store_d) fun r2=>some (r2.1,r2.2.1,r2.2.2.1,r2.2.2.2))) else (bnd (xN a_p0.order a_p0) fun r3=>bif r3 then (some (a_p0,a_p0_store,a_p0_store_d,0)) else (bnd (vR a_p0 a_p0_store a_p0_store_d) fun r4=>some (r4.1,r4.2.1,r4.2.2.1,r4.2.2.2)))
theorem pZ {a_p0 a_p0_store a_p0_store_d A1 c1 A2 c2 A3 c3 A4 c4 A5 c5 A6 c6 A7 c7 M1 gb1 gb2 gb3 r} (h:xA a_p0 a_p0_store a_p0_store_d=some r):
    Fun Tryz.prog 67 [.pointer (some ⟨gb1,0,none⟩)] [.ro (SlL zR A2 c2 a_p0.needs), .ro (SlL yU A3 c3 a_p0.load.Have), .ro (SlL eu8 A4 c4 a_p0.load.Data), .ro (SlL yH A5 c5 a_p0.order), .res (Box gb1 144 (zI a_p0 gb2 A1 c1 A2 c2 A3 c3 A4 c4 A5 c5)), .res (xK (yL zE) 64 A1 c1 a_p0.devices), .res (Box gb2 135 (zO a_p0_store gb3 M1)), .res (yO (yF .u8) (cod eu8) M1 a_p0_store.all), .res (Box gb3 131 (zG a_p0_store_d A6 c6 A7 c7)), .res (zM eu8 5 A6 c6 a_p0_store_d.bytes), .res (zM yH 3 A7 c7 a_p0_store_d.wear)] (fun v F=>∃ A8 c8 A9 c9 A10 c10 A11 c11 A12 c12 M2 A13 c13 A14 c14,v= .int .i64 r.2.2.2∧F= [.ro (SlL zR A9 c9 r.1.needs), .ro (SlL yU A10 c10 r.1.load.Have), .ro (SlL eu8 A11 c11 r.1.load.Data), .ro (SlL yH A12 c12 r.1.order), .res (Box gb1 144 (zI r.1 gb2 A8 c8 A9 c9 A10 c10 A11 c11 A12 c12)), .res (xK (yL zE) 64 A8 c8 r.1.devices), .res (Box gb2 135 (zO r.2.1 gb3 M2)), .res (yO (yF .u8) (cod eu8) M2 r.2.1.all), .res (Box gb3 131 (zG r.2.2.1 A13 c13 A14 c14)), .res (zM eu8 5 A13 c13 r.2.2.1.bytes), .res (zM yH 3 A14 c14 r.2.2.1.wear)]):=by
 refine Fun.intro Tryz.func67 rfl rfl rfl fun w R=>?_;refine .ab [0] rfl<|.ab [0,3] rfl<|.seq<|.a 3 rfl<|.lb 3 4 rfl<|.b [0,3,10] rfl<|.cb h rfl (fun h=>?_) (fun h=>?_)
 ·refine .region<|.b [0,3] rfl<|.seq<|.a 3 rfl<|.lb 9 4 rfl<|.p rfl rfl<|.bd h fun r1 hr1 h=>.cq 11 [5,2,3,4,5] [4,4] 0 (sF (gb1:=gb1) hr1) zMm rfl<|.b [0,18] rfl<|.cb h rfl (fun h=>?_) (fun h=>?_)
  ·refine .ab [2] rfl ?_;cases h;exact .rv rfl rfl ⟨A1,c1,A2,c2,A3,c3,A4,c4,A5,c5,M1,A6,c6,A7,c7,rfl,rfl⟩ (zk 11 4 [7,8,9,10] [0,0,4,4,4,4,4] 0 rfl)
  refine .sk<|.pr [0] rfl<|.a 1 rfl<|.bd h fun r2 hr2 h=>.call (mQ (gb1:=gb1) (gb2:=gb2) (gb3:=gb3) hr2) zNl rfl rfl rfl (zd [7,8,9,10] [0,0,4,4,4,4,4] 0 rfl) ?_;rintro _ _ ⟨A8,c8,A9,c9,A10,c10,A11,c11,A12,c12,M2,A13,c13,A14,c14,rfl,rfl⟩;refine .nm 15 rfl<|.bf [2] [0,0,0,0,0,0,0,0,0,0,0] 4 rfl rfl ?_;cases h;exact .rv rfl rfl ⟨A8,c8,A9,c9,A10,c10,A11,c11,A12,c12,M2,A13,c13,A14,c14,rfl,rfl⟩ (zk 11 4 [7,8,9,10] [4,4,4,4,4,4,4] 0 rfl)
 refine .sk<|.pr [0,3] rfl<|.seq<|.a 3 rfl<|.lb 9 4 rfl<|.p rfl rfl<|.bd h fun r3 hr3 h=>.cq 11 [5,2,3,4,5] [4,4] 0 (mH (gb1:=gb1) hr3) zMm rfl<|.b [0,18] rfl<|.cb h rfl (fun h=>?_) (fun h=>?_)
 ·refine .ab [2] rfl ?_;cases h;exact .rv rfl rfl ⟨A1,c1,A2,c2,A3,c3,A4,c4,A5,c5,M1,A6,c6,A7,c7,rfl,rfl⟩ (zk 11 4 [7,8,9,10] [0,0,4,4,4,4,4] 0 rfl)
 refine .sk<|.pr [0] rfl<|.a 1 rfl<|.bd h fun r4 hr4 h=>.call (mQ (gb1:=gb1) (gb2:=gb2) (gb3:=gb3) hr4) zNl rfl rfl rfl (zd [7,8,9,10] [0,0,4,4,4,4,4] 0 rfl) ?_;rintro _ _ ⟨A15,c15,A16,c16,A17,c17,A18,c18,A19,c19,M3,A20,c20,A21,c21,rfl,rfl⟩;refine .nm 15 rfl<|.bf [2] [0,0,0,0,0,0,0,0,0,0,0] 4 rfl rfl ?_;cases h;exact .rv rfl rfl ⟨A15,c15,A16,c16,A17,c17,A18,c18,A19,c19,M3,A20,c20,A21,c21,rfl,rfl⟩ (zk 11 4 [7,8,9,10] [4,4,4,4,4,4,4] 0 rfl)
theorem zST:Ent Tryz.prog 16:=en Tryz.func16 (by kernel_rfl)
noncomputable def wS (store:zC) (devices:(List zB)) (needs:(List zT)) (store_d:zA):Option (zC × zA × (Option zD) × Int):=
 bnd ((bif decide ((devices.length:Int)<1) then (some true) else (some (decide ((devices.length:Int)>8))):Option Bool)) fun o1=>bif o1 then (some (store,store_d,none,2)) else (bnd (yG (τ:=(zC × zA × (Option zD) × Int) ⊕ Unit) (fun (s1:Int)=>bif decide (s1<(devices.length:Int)) then (bnd (elt devices s1) fun x1=>bnd (uY x1) fun r1=>bif !r1 then (some (.done (.inl (store,store_d,none,1)))) else (bnd ((bif decide (s1>0) then (bnd (elt devices (IntKind.wrap .i64 (s1 - 1))) fun x2=>some (Op.bytesLess x1.Name.toList x2.Name.toList||(x1.Name.toList==x2.Name.toList))) else (some false):Option Bool)) fun o4=>bif o4 then (some (.done (.inl (store,store_d,none,7)))) else (some (.next (IntKind.wrap .i64 (s1+1)))))) else (some (.done (.inr ())))) 0) fun o2=>wT o2 fun o3=>bnd (xT ([]) needs) fun r2=>bif (r2.2 != 0) then (some (store,store_d,none,2)) else (bnd (xD needs) fun r3=>bnd (yG (τ:=List zB) (fun (s2:Int × List zB)=>bif decide (s2.1<(devices.length:Int)) then (bnd (elt devices s2.1) fun x3=>bnd (pM x3) fun r4=>bnd (yG (τ:=zB) (fun (s3:zB)=>bnd ((bif s3.Trial then (some true) else (some (s3.Running != s3.Active)):Option Bool)) fun o7=>bif o7 then (bnd (lR s3) fun r5=>some (.next r5)) else (some (.done s3))) r4) fun o6=>bnd (app 184 s2.2 [o6]) fun l1=>some (.next (IntKind.wrap .i64 (s2.1+1),l1))) else (some (.done s2.2))) (0, [])) fun o5=>bnd (tA store 32) fun r6=>bif !r6.2 then (some (store,store_d,(some (⟨true,o5,r3,0,(⟨0,0, [], []⟩:xF),0, []⟩:zD)),0)) else (bnd (uL (⟨true,o5,r3,0,(⟨0,0, [], []⟩:xF),0, []⟩:zD) r6.1) fun r7=>bif !r7.2 then (some (store,store_d,none,6)) else (bnd (xA r7.1 store store_d) fun r8=>bif (r8.2.2.2 != 0) then (some (r8.2.1,r8.2.2.1,none,r8.2.2.2)) else (some (r8.2.1,r8.2.2.1,(some r8.1),0))))))
theorem eX {store devices needs store_d A1 c1 A2 c2 A3 c3 A4 c4 M1 gb1 gb2 r} (h:wS store devices needs store_d=some r):
    Fun Tryz.prog 16 [.pointer (some ⟨gb1,0,none⟩), .slice A1 devices.length c1, .slice A2 needs.length c2] [.ro (Sl (yL zE) A1 c1 devices), .ro (SlL zR A2 c2 needs), .ro (zGA 0 [(2,some 315),(3,some 316)]), .res (Box gb1 135 (zO store gb2 M1)), .res (yO (yF .u8) (cod eu8) M1 store.all), .res (Box gb2 131 (zG store_d A3 c3 A4 c4)), .res (zM eu8 5 A3 c3 store_d.bytes), .res (zM yH 3 A4 c4 store_d.wear)] (zMW r.2.2.1 (fun v F=>∃ M2 A5 c5 A6 c6,v= .tuple #[.pointer none, .int .i64 r.2.2.2]∧F= [.res (Box gb1 135 (zO r.1 gb2 M2)), .res (yO (yF .u8) (cod eu8) M2 r.1.all), .res (Box gb2 131 (zG r.2.1 A5 c5 A6 c6)), .res (zM eu8 5 A5 c5 r.2.1.bytes), .res (zM yH 3 A6 c6 r.2.1.wear)]) (fun q_ v F=>∃ g1 M2 A5 c5 A6 c6 A7 c7 A8 c8 A9 c9 A10 c10 A11 c11,v= .tuple #[.pointer (some ⟨g1,0,none⟩), .int .i64 r.2.2.2]∧F= [.ro (SlL zR A8 c8 q_.needs), .ro (SlL yU A9 c9 q_.load.Have), .ro (SlL eu8 A10 c10 q_.load.Data), .ro (SlL yH A11 c11 q_.order), .res (Box gb1 135 (zO r.1 gb2 M2)), .res (yO (yF .u8) (cod eu8) M2 r.1.all), .res (Box gb2 131 (zG r.2.1 A5 c5 A6 c6)), .res (zM eu8 5 A5 c5 r.2.1.bytes), .res (zM yH 3 A6 c6 r.2.1.wear), .res (Box g1 144 (zI q_ gb1 A7 c7 A8 c8 A9 c9 A10 c10 A11 c11)), .res (xK (yL zE) 64 A7 c7 q_.devices)])):=by
 refine Fun.intro Tryz.func16 rfl rfl rfl fun w R=>?_;refine .ab [0,1,2] rfl<|.seq<|.seq<|.bd h fun o1 hj1 h=>.cutK 0 (fun (e1:Unit)=>[0,1,2, .s 25 (.bool o1)]) (fun e1=>[]) rfl rfl ?_ ?_
 ·refine .region<|.n 4 rfl<|.gs 21 hj1 rfl (fun hj1=>?_) (fun hj1=>?_)
  ·cases hj1;exact .be rfl<|.hU rfl zw
  cases hj1;exact .be rfl<|.hU rfl zw
 rintro e1;refine .cb h rfl (fun h=>?_) (fun h=>?_)
 ·refine .abf [6,7] [] 2 rfl rfl ?_;cases h;exact .rv rfl rfl (mB ⟨M1,A3,c3,A4,c4,rfl,rfl⟩) (zl [] 1 rfl)
 refine .sk<|.pr [0,1,2] rfl<|.seq<|.ae rfl<|.bd h fun o2 hl1 h=>.cutJ 0 (fun (o3:Unit) (e3:Unit)=>[0,1,2]) (fun o3 e3=>[]) rfl rfl (fun o3=>o2= .inr o3) ?_ ?_
 ·refine .block<|.loopQ hl1 0 (fun (s1:Int) (e2:Unit)=>[0,1,2,26,27, .s 28 (.int .i64 s1)]) (fun s1 e2=>[]) rfl rfl () (zb rfl) (fun _ w=>w) ?_;rintro s1 e2 st1 hm1 hd1 h1;refine .ae rfl<|.seq<|.cb h1 rfl (fun h1=>?_) (fun h1=>?_)
  ·refine .sk<|.pr [0,1,2,26,27,28] rfl<|.seq<|.block<|.a 1 rfl<|.bd h1 fun x1 hx1 h1=>.ix3 hx1 0 rfl fun b1 ob1 ex1=>?_;obtain ⟨⟨A5,c5⟩,⟨⟨A6,c6⟩,_⟩⟩:=ex1;refine .nm 11 rfl<|.ld ob1 0 0 rfl<|.alloc rfl rfl fun g1=>.p rfl rfl<|.sb 0 0 rfl<|.bf [0,1,2,8,9,26,27,28] [0] 1 rfl rfl<|.seq<|.seq<|.region<|.lb 0 0 rfl<|.bd h1 fun r1 hr1 h1=>.cv [1,2] (pB hr1) zFH rfl<|.b [0,1,2,8,9,26,27,28,35] rfl<|.cb h1 rfl (fun h1=>?_) (fun h1=>?_)
   ·refine .abf [6,7] [] 5 rfl rfl ?_;cases h1;cases hd1 _ rfl
    have h:some _=some _:=h;cases h;exact .rv rfl rfl (mB ⟨M1,A3,c3,A4,c4,rfl,rfl⟩) (zl [] 1 rfl)
   refine .sk<|.pr [0,1,2,8,9,26,27,28] rfl<|.seq<|.bd h1 fun o4 hj2 h1=>.cu 3 [0,1,2,26,27,28, .s 48 (.bool o4)] [] rfl rfl ?_ ?_
   ·refine .regionF mixed (by kernel_rfl)<|.n 3 rfl<|.gs 38 hj2 rfl (fun hj2=>?_) (fun hj2=>?_)
    ·refine .n 1 rfl<|.gOn rfl rfl<|.lb 0 0 rfl<|.n 3 rfl<|.gOn rfl rfl<|.bd hj2 fun x2 hx2 hj2=>.ix3 hx2 3 rfl fun b2 ob2 ex2=>?_;obtain ⟨⟨A7,c7⟩,⟨⟨A8,c8⟩,_⟩⟩:=ex2;refine .nm 14 rfl<|.n 1 rfl<|.gOn rfl rfl<|.ld ob2 0 0 rfl ?_;cases hj2;exact .beq rfl<|.hU rfl (zl [] 6 rfl)
    cases hj2;exact .beq rfl<|.hU rfl (zl [] 3 rfl)
   refine .cb h1 rfl (fun h1=>?_) (fun h1=>?_)
   ·refine .abf [6,7] [] 2 rfl rfl ?_;cases h1;cases hd1 _ rfl
    have h:some _=some _:=h;cases h;exact .rv rfl rfl (mB ⟨M1,A3,c3,A4,c4,rfl,rfl⟩) (zl [] 1 rfl)
   refine .skip<|.blkN<|.thenN<|.pr [0,1,2,26,27,28] rfl<|.region ?_;cases h1;exact .be rfl<|.ag () hm1 rfl zw
  refine .xq rfl ?_;cases h1;cases hd1 _ rfl
  exact .thenN<|.hereI () () rfl (zb rfl) zw
 rintro o3 e3 ho;subst ho;have h:=unR h;refine .seq<|.a 1 rfl<|.asrt (fun _ w=>w.nilSl (cod zJ))<|.bd h fun r2 hr2 h=>.cv [0,2] (uN hr2) zDV rfl<|.bf [0,1,2,11] [] 1 rfl rfl<|.ab [0,1,2,56] rfl<|.cb h rfl (fun h=>?_) (fun h=>?_)
 ·refine .abf [6,7] [] 2 rfl rfl ?_;cases h;exact .rv rfl rfl (mB ⟨M1,A3,c3,A4,c4,rfl,rfl⟩) (zl [] 1 rfl)
 refine .sk<|.pr [0,1,2] rfl<|.a 2 rfl<|.bd h fun r3 hr3 h=>.cr 9 [1] [] 0 (uC hr3) zRg rfl fun A9 c9=>.p rfl rfl<|.box rfl rfl fun g2=>.bf [0,1,12] [0,0,0] 1 rfl rfl<|.seq<|.ab [0,12,62,63,64] rfl<|.asrt (fun _ w=>w.nilC (yL zE) 64)<|.bd h fun o5 hl2 h=>.cutK 4 (fun (e6:Option Addr × Nat)=>[0,12]) (fun e6=>[.res (xK (yL zE) 64 e6.1 e6.2 o5), .res (Box g2 144 [.pointer (some ⟨gb1,0,none⟩), .slice e6.1 o5.length e6.2, .slice A9 r3.length c9, .int .i64 0, .int .i64 0, .int .i64 0, .slice none 0 0, .slice none 0 0, .int .u8 0, .slice none 0 0]),2]) rfl rfl ?_ ?_
 ·refine .block<|.loopQ hl2 2 (fun (s2:Int × List zB) (e5:Option Addr × Nat)=>[0,12,62,63, .s 64 (.int .i64 s2.1)]) (fun s2 e5=>[.res (xK (yL zE) 64 e5.1 e5.2 s2.2), .res (Box g2 144 [.pointer (some ⟨gb1,0,none⟩), .slice e5.1 s2.2.length e5.2, .slice A9 r3.length c9, .int .i64 0, .int .i64 0, .int .i64 0, .slice none 0 0, .slice none 0 0, .int .u8 0, .slice none 0 0])]) rfl rfl (none,0) (zb rfl) (fun _ w=>w) ?_;rintro s2 ⟨A10,c10⟩ st2 hm2 hd2 h2;refine .ae rfl<|.seq<|.cb h2 rfl (fun h2=>?_) (fun h2=>?_)
  ·refine .sk<|.pr [0,12,62,63,64] rfl<|.seq<|.block<|.seq<|.region<|.bd h2 fun x3 hx3 h2=>.ix3 hx3 3 rfl fun b3 ob3 ex3=>?_;obtain ⟨⟨A12,c12⟩,⟨⟨A13,c13⟩,_⟩⟩:=ex3;refine .nm 13 rfl<|.ld ob3 0 0 rfl<|.alloc rfl rfl fun g3=>.sb 0 0 rfl<|.bf [0,12,14,62,63,64] [0] 1 rfl rfl<|.seq<|.region<|.lb 0 0 rfl<|.bd h2 fun r4 hr4 h2=>.ct 15 [1,2] [] 0 (bL hr4) zUS rfl fun A14 c14 A15 c15=>.sb 0 2 rfl<|.bf [0,12,14,62,63,64] [0,0,0] 2 rfl rfl<|.seq<|.bd h2 fun o6 hl3 h2=>.cutK 3 (fun (e8:Option Addr × Nat × Option Addr × Nat)=>[0,12,14,62,63,64]) (fun e8=>[.ro (SlL eu8 e8.2.2.1 e8.2.2.2 o6.Slots.e1.Image.Data), .ro (SlL eu8 e8.1 e8.2.1 o6.Slots.e0.Image.Data), .res (Box g3 64 (zN o6 e8.1 e8.2.1 e8.2.2.1 e8.2.2.2))]) rfl rfl ?_ ?_
   ·refine .block<|.loopQ hl3 3 (fun (s3:zB) (e7:Option Addr × Nat × Option Addr × Nat)=>[0,12,14,62,63,64]) (fun s3 e7=>[.ro (SlL eu8 e7.2.2.1 e7.2.2.2 s3.Slots.e1.Image.Data), .ro (SlL eu8 e7.1 e7.2.1 s3.Slots.e0.Image.Data), .res (Box g3 64 (zN s3 e7.1 e7.2.1 e7.2.2.1 e7.2.2.2))]) rfl rfl (A14,c14,A15,c15) (zb rfl) (zl [2,1] 0 rfl) ?_;rintro s3 ⟨A16,c16,A17,c17⟩ st3 hm3 hd3 h3;refine .seq<|.seq<|.bd h3 fun o7 hj3 h3=>.cu 0 [0,12,14,62,63,64, .s 78 (.bool o7)] [] rfl rfl ?_ ?_
    ·refine .region<|.p rfl rfl<|.lb 15 2 rfl<|.p rfl rfl<|.gs 72 hj3 rfl (fun hj3=>?_) (fun hj3=>?_)
     ·cases hj3;exact .be rfl<|.hU rfl zw
     refine .n 1 rfl<|.gOn rfl rfl<|.lb 14 2 rfl<|.n 1 rfl<|.gOn rfl rfl<|.lb 13 2 rfl ?_;cases hj3;exact .be rfl<|.hU rfl zw
    refine .cb h3 rfl (fun h3=>?_) (fun h3=>?_)
    ·refine .sk<|.pr [0,12,14,62,63,64] rfl<|.block<|.region<|.lb 0 2 rfl<|.bd h3 fun r5 hr5 h3=>.ct 15 [1,0] [] 0 (zFz hr5) zHy rfl fun A20 c20 A21 c21=>.sb 0 4 rfl<|.done<|.blkN<|.asrt (fun _ w=>(w.sl [1] 0 rfl).meltL)<|.asrt (fun _ w=>(w.sl [2] 0 rfl).meltL) ?_;cases h3;exact .thenN<|.ag (A20,c20,A21,c21) hm3 rfl (zl [0,0,0] 2 rfl)
    refine .xq rfl ?_;cases h3;cases hd3 _ rfl
    exact .thenN<|.hE (A16,c16,A17,c17) rfl zw
   rintro ⟨A18,c18,A19,c19⟩;refine .bd h2 fun l1 hl1 h2=>.regionX (iN [0,4,8,12,20] (.alt (iN [19] (iN [27] (iN [31,32,36] (iN [43] .nil)))) (iN [27] (iN [19] (iN [31,32,36] (iN [43] .nil)))))) _ mixed (by kernel_rfl) (zl [0,0,0] 2 rfl)<|.shareK (Y:=?Ynd1_0) 0 (fun (e:Nat)=>[0,12,62,63,64, .s 81 (.pointer (some ⟨g2,0,none⟩)), .s 85 (.slice A10 s2.2.length c10), .s 87 (.slice (some ⟨e,0,none⟩) 1 1)]) (fun e=>[.res (Box e 64 (zN o6 A18 c18 A19 c19))]) rfl rfl (fun hnd1_0=>?mnd1_0) ?tnd1_0
   case mnd1_0=>
    refine .yn 4 rfl<|.yl 0 2 rfl<|.xalt ?_ ?_
    ·refine .xef<|.lb 1 4 rfl<|.xk (zl [0,0,0] 2 rfl)<|.xef<|.bS rfl fun g4=>.xk (zl [1,1,1] 3 rfl) ?_;refine hnd1_0 _ _ g4 ?_ ?_
     ·exact ⟨rfl,rfl,rfl,rfl,rfl,rfl,rfl,rfl,trivial⟩
     exact fun _ w=>w
    refine .xef<|.bS rfl fun g4=>.xk (zl [1,1,1] 3 rfl)<|.xef<|.lb 1 5 rfl<|.xk (zl [1,1,1] 3 rfl) ?_;refine hnd1_0 _ _ g4 ?_ ?_
    ·exact ⟨rfl,rfl,rfl,rfl,rfl,rfl,rfl,rfl,trivial⟩
    exact fun _ w=>w
   case tnd1_0=>
    rintro g4;refine .nm 14 rfl<|.xef<|.appC (E:=(yL zE)) hl1 rfl rfl rfl (.s (.s (.s (.s .z)))) rfl rfl rfl rfl rfl rfl rfl rfl (zDR (ls:=zE) [(o6,((A18,c18),((A19,c19),())))] (.head _) rfl rfl rfl ⟨(zm 2 rfl),(.tail _ (.head _)),trivial⟩) rfl rfl fun A22 c22=>.xk (zl [2,2,2] 3 rfl)<|.yn 2 rfl<|.xef<|.sb 1 5 rfl<|.xk (zl [] 3 rfl)<|.xdone<|.blkN<|.thenN<|.pf [0,12,62,63,64] [0,0] 4 rfl rfl<|.region ?_;cases h2;exact .be rfl<|.ag (A22,c22) hm2 rfl (zl [1] 0 rfl)
  refine .xq rfl ?_;cases h2;cases hd2 _ rfl
  exact .thenN<|.hE (A10,c10) rfl (zl [0,0,0] 1 rfl)
 rintro ⟨A11,c11⟩;refine .a 1 rfl<|.bd h fun r6 hr6 h=>.cr 10 [] [4,4] 0 (zAn (gb1:=gb1) hr6) zXR rfl fun A23 c23=>.b [12,15,16] rfl<|.seq<|.ab [12,15,98] rfl<|.cb h rfl (fun h=>?_) (fun h=>?_)
 ·refine .abf [6,7] [0,0] 1 rfl rfl<|.asrt (fun _ w=>(w.sl [4] 0 rfl).meltL)<|.asrt (fun _ w=>w.nilSl (cod yU))<|.asrt (fun _ w=>w.nilSl (cod eu8))<|.asrt (fun _ w=>w.nilSl (cod yH)) ?_;cases h;exact .rv rfl rfl (zCd ⟨g2,M1,A3,c3,A4,c4,A11,c11,A9,c9,none,0,none,0,none,0,rfl,rfl⟩) (zk 11 5 [10,9,8,7] [4,4,7,7,7,5,4] 0 rfl)
 refine .sk<|.pr [12,15] rfl<|.seq<|.a 2 rfl<|.asrt (fun _ w=>(w.sl [5] 0 rfl).meltL)<|.asrt (fun _ w=>w.nilSl (cod yU))<|.asrt (fun _ w=>w.nilSl (cod eu8))<|.asrt (fun _ w=>w.nilL yH 3)<|.asrt (fun _ w=>(w.sl [6] 0 rfl).meltL)<|.bd h fun r7 hr7 h=>.call (zAP (gb1:=g2) hr7) zXH rfl rfl rfl (zd [6,5,4,3,9] [8,7,1] 0 rfl) ?_;rintro _ _ ⟨A24,c24,A25,c25,A26,c26,A27,c27,A28,c28,rfl,rfl⟩;refine .nm 16 rfl<|.bf [12,103] [0,0,0,0,0,0] 4 rfl rfl<|.cb h rfl (fun h=>?_) (fun h=>?_)
 ·refine .abf [6,7] [] 6 rfl rfl ?_;cases h;exact .rv rfl rfl (mB ⟨M1,A3,c3,A4,c4,rfl,rfl⟩) (zl [0,0] 1 rfl)
 refine .sk<|.pr [12] rfl<|.seq<|.a 1 rfl<|.asrt (fun _ w=>(w.sl [5] 0 rfl).meltL)<|.bd h fun r8 hr8 h=>.call (pZ (gb1:=g2) (gb2:=gb1) (gb3:=gb2) hr8) zRL rfl rfl rfl (zd [8,9,10,7] [4,4,4,4,5,5,5] 0 rfl) ?_;rintro _ _ ⟨A29,c29,A30,c30,A31,c31,A32,c32,A33,c33,M2,A34,c34,A35,c35,rfl,rfl⟩;refine .nm 16 rfl<|.bf [12,17] [0,0,0,0,0,0,0,0,0,0,0] 4 rfl rfl<|.ab [12,17,107] rfl<|.cb h rfl (fun h=>?_) (fun h=>?_)
 ·refine .abf [6,7] [] 6 rfl rfl ?_;cases h;exact .rv rfl rfl (mB ⟨M2,A34,c34,A35,c35,rfl,rfl⟩) (zl [0,0,0,0,0] 1 rfl)
 refine .sk<|.pr [12] rfl<|.ab [6,7] rfl ?_;cases h;exact .rv rfl rfl (zCd ⟨g2,M2,A34,c34,A35,c35,A29,c29,A30,c30,A31,c31,A32,c32,A33,c33,rfl,rfl⟩) (zk 11 5 [7,8,9,10] [6,6,6,6,6,4,4] 0 rfl)
theorem zUP:Ent Tryz.prog 76:=en Tryz.func76 (by kernel_rfl)
noncomputable def oR (b_p0:zX):Option Int:=
 bnd ((bif decide ((b_p0.Images.length:Int)<1) then (some true) else (some (decide ((b_p0.Images.length:Int)>8))):Option Bool)) fun o1=>bif o1 then (some 2) else (bnd (yG (τ:=Int ⊕ Unit) (fun (s1:Int)=>bif decide (s1<(b_p0.Images.length:Int)) then (bnd (elt b_p0.Images s1) fun x1=>bnd (tC x1) fun r1=>bif !r1 then (some (.done (.inl 1))) else (bnd ((bif decide (s1>0) then (bnd (elt b_p0.Images (IntKind.wrap .i64 (s1 - 1))) fun x2=>some (Op.bytesLess x1.Name.toList x2.Name.toList||(x1.Name.toList==x2.Name.toList))) else (some false):Option Bool)) fun o4=>bif o4 then (some (.done (.inl 7))) else (some (.next (IntKind.wrap .i64 (s1+1)))))) else (some (.done (.inr ())))) 0) fun o2=>wT o2 fun o3=>bif decide ((b_p0.Needs.length:Int)>16) then (some 3) else (bnd (xT ([]) b_p0.Needs) fun r2=>bif (r2.2 != 0) then (some 1) else (some 0)))
end Go.Proofs.YtplchdlgdjcojaaGreatDoor
end
