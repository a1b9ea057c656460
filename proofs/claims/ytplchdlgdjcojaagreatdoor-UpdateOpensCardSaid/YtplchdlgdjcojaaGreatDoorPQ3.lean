/-
  Texts of this seat, put together: rules, walks, plain laws.
  Conditions: none.
-/
import Derived.Test.YtplchdlgdjcojaaGreatDoorPQ2
noncomputable section
namespace Go.Proofs.YtplchdlgdjcojaaGreatDoor
open Go IntKind
set_option linter.unusedVariables false
set_option linter.unusedSimpArgs false
set_option linter.unusedSectionVars false
set_option maxHeartbeats 4000000
set_option maxRecDepth 10000
@[simp] theorem AA {α β:Type} (a:α) (f:α→Option β):bnd (some a) f=f a:=rfl
@[simp] theorem Dx {α β:Type} (f:α→Option β):bnd none f=none:=rfl
@[simp] theorem JR {ρ σ:Type} (r:ρ) (f:σ→Option ρ):xL (.inl r) f=some r:=rfl
@[simp] theorem DZ {ρ σ:Type} (s:σ) (f:σ→Option ρ):xL (.inr s) f=f s:=rfl
theorem zRr {α:Type} (x:Option α):bnd x (fun y=>some y)=x:=by cases x <;> rfl
theorem zZ {x:Int} (h1: -9223372036854775808≤x) (h2:x≤9223372036854775807):wrap .i64 x=x:=by
 unfold wrap
 simp only [IntKind.bits,IntKind.signed]
 simp
 omega
theorem iD {x:Int} (h1:0≤x) (h2:x≤18446744073709551615):wrap .u64 x=x:=by
 unfold wrap
 simp only [IntKind.bits,IntKind.signed]
 simp
 omega
theorem zQK {x:Int} (h1:0≤x) (h2:x≤4294967295):wrap .u32 x=x:=by
 unfold wrap
 simp only [IntKind.bits,IntKind.signed]
 simp
 omega
theorem bN {x:Int} (h1:0≤x) (h2:x≤255):wrap .u8 x=x:=by
 unfold wrap
 simp only [IntKind.bits,IntKind.signed]
 simp
 omega
theorem eV (x:Int):wrap .u8 x=x % 256:=by unfold wrap; simp [IntKind.bits,IntKind.signed]
theorem kW (x:Int):wrap .u32 x=x % 4294967296:=by unfold wrap; simp [IntKind.bits,IntKind.signed]
theorem yQ {i n:Nat} (h:i<n) (hn:n≤140737488355328):wrap .i64 ((i:Int)+1)=((i+1:Nat):Int):=by
 rw [zZ (by omega) (by omega)]
 omega
@[simp] theorem JY {α:Type} (xs:List α) (i:Nat):BP xs (i:Int)=xs[i]?:=by simp [BP]
theorem xJ {α:Type} {xs:List α} {i:Nat} (h:i<xs.length):BP xs (i:Int)=some xs[i]:=by simp [h]
theorem vE {α:Type} {b:Nat} {xs ys:List α} (h:(xs.length+ys.length)*b≤140737488355328) (h2:xs.length+ys.length≤9223372036854775807):app b xs ys=some (xs++ys):=by
 simp [app,h,h2]
theorem Dy (a b:ByteArray):(a.toList==b.toList)=decide (a=b):=by
 rw [Bool.eq_iff_iff]
 simp only [beq_iff_eq,decide_eq_true_eq]
 constructor
 ·intro h
  rw [ByteArray.toList_eq,ByteArray.toList_eq] at h
  obtain ⟨x⟩:=a
  obtain ⟨y⟩:=b
  have:x=y:=Array.toList_inj.1 h
  rw [this]
 ·intro h; rw [h]
theorem zIg {α β:Type} [DecidableEq α] {K:oL α} (hK:∀ a b,K.eq a b=true↔a=b) (m:List (α × β)) (k k':α) (v:β):vW K.eq (nX K.eq m k v) k'=if k'=k then some v else vW K.eq m k':=by
 have hf:∀ a b,a≠b→K.eq a b=false:=fun a b h=>by
  cases hc:K.eq a b
  ·rfl
  ·exact absurd ((hK a b).1 hc) h
 have ht:∀ a,K.eq a a=true:=fun a=>(hK a a).2 O
 induction m with
 | nil=>
  by_cases h:k'=k
  ·subst h; simp [nX,vW,ht]
  ·simp [nX,vW,hf _ _ h,h]
 | cons x r ih=>
  by_cases hx:k=x.1
  ·subst hx
   by_cases h:k'=x.1
   ·subst h; simp [nX,vW,ht]
   ·simp [nX,vW,ht,hf _ _ h,h]
  ·by_cases h:k'=x.1
   ·subst h
    have:x.1≠k:=fun e=>hx e.symm
    simp [nX,vW,hf _ _ hx,ht,this]
   ·simp [nX,vW,hf _ _ hx,hf _ _ h,ih]
theorem yR {σ τ:Type} {m:σ→Option (uN σ τ)} {s:σ} {t:τ} (h:m s=some (.done t)):yC m s=some t:=
 jH.2 ⟨1,by simp [eI,h]⟩
theorem xO {σ τ:Type} {m:σ→Option (uN σ τ)} {s s':σ} {t:τ} (h:m s=some (.next s')) (k:yC m s'=some t):yC m s=some t:=by
 obtain ⟨n,hn⟩:=jH.1 k
 exact jH.2 ⟨n+1,by simp [eI,h,hn]⟩
theorem Qu {σ τ:Type} {m:σ→Option (uN σ τ)} (S:Nat→σ) (n:Nat) {t:τ} (hs:∀ i,i<n→m (S i)=some (.next (S (i+1)))) (hd:m (S n)=some (.done t)):yC m (S 0)=some t:=by
  have:∀ k i,i+k=n→yC m (S i)=some t:=by
    intro k
    induction k with
    | zero => intro i hi; obtain rfl : i = n := by omega
              exact yR hd
    | succ k ih=>intro i hi; exact xO (hs i (by omega)) (ih (i+1) (by omega))
  exact this n 0 (by omega)
theorem Zn {σ τ:Type} {m:σ→Option (uN σ τ)} (S:Nat→σ) (n:Nat) (f:Nat→Option τ) {t:τ} (hs:∀ i,i<n→m (S i)=some (match f i with | some u=>.done u | none=>.next (S (i+1)))) (hd:m (S n)=some (.done t)):
    yC m (S 0)=some (((List.range n).findSome? f).getD t):=by
  have:∀ k i,i+k=n→yC m (S i)=some (((List.range' i k).findSome? f).getD t):=by
    intro k
    induction k with
    | zero => intro i hi; obtain rfl : i = n := by omega
              exact yR hd
    | succ k ih=>
      intro i hi
      have h1:=hs i (by omega)
      rw [List.range'_succ,List.findSome?_cons]
      cases hf:f i with
      | some u=>rw [hf] at h1; simpa using yR h1
      | none=>rw [hf] at h1; exact xO h1 (ih (i+1) (by omega))
  simpa [List.range_eq_range'] using this n 0 (by omega)
theorem Zo {σ τ:Type} {m:σ→Option (uN σ τ)} (S:Nat→σ) (n:Nat) (p:Nat→Bool) {u t:τ} (hs:∀ i,i<n→m (S i)=some (bif p i then .done u else .next (S (i+1)))) (hd:m (S n)=some (.done t)):
  yC m (S 0)=some (bif (List.range n).any p then u else t):=by
 rw [Zn S n (fun i=>bif p i then some u else none) (t:=t) (fun i hi=>?_) hd]
 ·congr 1
  generalize List.range n=l
  induction l with
  | nil=>rfl
  | cons x r ih=>
   rw [List.findSome?_cons,List.any_cons]
   cases p x
   ·simpa using ih
   ·rfl
 ·rw [hs i hi]
  cases p i <;> rfl
theorem zHR {α τ:Type} (p:α→Bool) (g:Nat→α→τ):∀ (l:List α) (k:Nat) (f:Nat→Option τ),(∀ i (h:i<l.length),f (k+i)=if p l[i] then some (g (k+i) l[i]) else none)→
  (∃ i,∃ h:i<l.length,p l[i]=true∧l.find? p=some l[i]∧(List.range' k l.length).findSome? f=some (g (k+i) l[i]))∨(l.find? p=none∧(∀ x∈l,p x=false)∧(List.range' k l.length).findSome? f=none)
 | [],k,f,_=>.inr ⟨O,by simp,O⟩
 | x::r,k,f,hf=>by
  have h0:=hf 0 (by simp)
  simp only [Nat.add_zero,List.getElem_cons_zero] at h0
  cases hp:p x
  ·have ih:=zHR p g r (k+1) f (fun i h=>by
    have:=hf (i+1) (by simpa using h)
    simpa [Nat.add_assoc,Nat.add_comm 1 i] using this)
   simp only [hp,Bool.false_eq_true,if_false] at h0
   rcases ih with ⟨i,h,h1,h2,h3⟩ | ⟨h1,h2,h3⟩
   ·refine .inl ⟨i+1,by simpa using h,by simpa using h1,by simp [List.find?_cons,hp,h2],?_⟩
    simp only [List.length_cons,List.range'_succ,List.findSome?_cons,h0,h3,List.getElem_cons_succ]
    congr 2
    omega
   ·exact .inr ⟨by simp [List.find?_cons,hp,h1],by simpa [hp] using h2,by simp [List.range'_succ,List.findSome?_cons,h0,h3]⟩
  ·refine .inl ⟨0,by simp,by simpa using hp,by simp [List.find?_cons,hp],?_⟩
   simp only [hp,if_true] at h0
   simp [List.range'_succ,List.findSome?_cons,h0]
theorem zLQ {α τ:Type} (l:List α) (p:α→Bool) (g:Nat→α→τ) (f:Nat→Option τ) (hf:∀ i (h:i<l.length),f i=if p l[i] then some (g i l[i]) else none):
  (∃ i,∃ h:i<l.length,p l[i]=true∧l.find? p=some l[i]∧(List.range l.length).findSome? f=some (g i l[i]))∨(l.find? p=none∧(∀ x∈l,p x=false)∧(List.range l.length).findSome? f=none):=by
 have:=zHR p g l 0 f (by simpa using hf)
 simpa [List.range_eq_range'] using this
theorem zOt {α:Type} (l:List α) (p:α→Bool) (f:Nat→Bool) (hf:∀ i (h:i<l.length),f i=p l[i]):(List.range l.length).any f=l.any p:=by
 rw [Bool.eq_iff_iff]
 simp only [List.any_eq_true,List.mem_range]
 constructor
 ·rintro ⟨i,hi,h⟩
  exact ⟨l[i],List.getElem_mem hi,by rw [←hf i hi]; exact h⟩
 ·rintro ⟨x,hx,h⟩
  obtain ⟨i,hi,rfl⟩:=List.getElem_of_mem hx
  exact ⟨i,hi,by rw [hf i hi]; exact h⟩
theorem xY {α:Type} {l:List α} {i:Nat} (h:i<l.length):l.take (i+1)=l.take i++ [l[i]]:=by
 rw [List.take_add_one,List.getElem?_eq_getElem h]
 rfl
theorem Qv {σ τ:Type} {m:σ→Option (uN σ τ)} (I:σ→Prop) (μ:σ→Nat) (Q:τ→Prop) (h:∀ s,I s→(∃ s',m s=some (.next s')∧I s'∧μ s'<μ s)∨∃ t,m s=some (.done t)∧Q t):∀ s,I s→∃ t,yC m s=some t∧Q t:=by
 have:∀ n s,μ s≤n→I s→∃ t,yC m s=some t∧Q t:=by
  intro n
  induction n with
  | zero=>
   intro s hs hI
   rcases h s hI with ⟨s',_,_,hl⟩ | ⟨t,ht,hq⟩
   ·omega
   ·exact ⟨t,yR ht,hq⟩
  | succ n ih=>
   intro s hs hI
   rcases h s hI with ⟨s',hm,hI',hl⟩ | ⟨t,ht,hq⟩
   ·obtain ⟨t,h1,h2⟩:=ih s' (by omega) hI'
    exact ⟨t,xO hm h1,h2⟩
   ·exact ⟨t,yR ht,hq⟩
 exact fun s hI=>this (μ s) s (Nat.le_refl _) hI
theorem wH {σ τ ρ:Type} {m:σ→Option (uN σ τ)} {s0:σ} {k:τ→Option ρ} {r:Option ρ} (S:Nat→σ) (n:Nat) (t:τ) (h0:s0=S 0) (hs:∀ i,i<n→m (S i)=some (.next (S (i+1)))) (hd:m (S n)=some (.done t)) (hk:k t=r):
  bnd (yC m s0) k=r:=by
 subst h0
 rw [Qu S n hs hd]
 exact hk
theorem zBL {σ τ ρ:Type} {m:σ→Option (uN σ τ)} {s0:σ} {k:τ→Option ρ} {r:Option ρ} (S:Nat→σ) (n:Nat) (f:Nat→Option τ) (t:τ) (h0:s0=S 0) (hs:∀ i,i<n→m (S i)=some (match f i with | some u=>.done u | none=>.next (S (i+1)))) (hd:m (S n)=some (.done t))
  (hk:k (((List.range n).findSome? f).getD t)=r):bnd (yC m s0) k=r:=by
 subst h0
 rw [Zn S n f hs hd]
 exact hk
theorem gW {σ τ ρ:Type} {m:σ→Option (uN σ τ)} {s0:σ} {k:τ→Option ρ} {r:Option ρ} (S:Nat→σ) (n:Nat) (p:Nat→Bool) (u t:τ) (h0:s0=S 0) (hs:∀ i,i<n→m (S i)=some (bif p i then .done u else .next (S (i+1)))) (hd:m (S n)=some (.done t))
  (hk:k (bif (List.range n).any p then u else t)=r):bnd (yC m s0) k=r:=by
 subst h0
 rw [Zo S n p hs hd]
 exact hk
theorem zJf {σ τ ρ:Type} {m:σ→Option (uN σ τ)} {s0:σ} {k:τ→Option ρ} {R:ρ→Prop} (I:σ→Prop) (μ:σ→Nat) (Q:τ→Prop) (h0:I s0) (h:∀ s,I s→(∃ s',m s=some (.next s')∧I s'∧μ s'<μ s)∨∃ t,m s=some (.done t)∧Q t)
  (hk:∀ t,Q t→∃ r,k t=some r∧R r):∃ r,bnd (yC m s0) k=some r∧R r:=by
 obtain ⟨t,h1,h2⟩:=Qv I μ Q h s0 h0
 rw [h1]
 exact hk t h2
theorem uL {α β:Type} {x:Option α} {f:α→Option β} {a:α} {r:Option β} (h:x=some a) (k:f a=r):bnd x f=r:=by rw [h]; exact k
theorem uA {α β:Type} {x:Option α} {f:α→Option β} {P:α→Prop} {R:β→Prop} (h:∃ a,x=some a∧P a) (k:∀ a,P a→∃ r,f a=some r∧R r):∃ r,bnd x f=some r∧R r:=by
 obtain ⟨a,h1,h2⟩:=h
 rw [h1]
 exact k a h2
def iz (l:List Nat):List Int:=l.map fun (n:Nat)=>(n:Int)
def lN (l:List Nat):Prop:=∀ x∈l,x<256
def bs (s:ByteArray):List Nat:=s.data.toList.map (·.toNat)
def sb (l:List Nat):ByteArray:=⟨(l.map UInt8.ofNat).toArray⟩
@[simp] theorem Zp (l:List Nat):(iz l).length=l.length:=by simp [iz]
@[simp] theorem Zq:iz []= []:=rfl
@[simp] theorem Qw (x:Nat) (l:List Nat):iz (x::l)=(x:Int)::iz l:=rfl
@[simp] theorem bs_len (s:ByteArray):(bs s).length=s.size:=by simp [bs]
@[simp] theorem Qy (l:List Nat):(sb l).size=l.length:=by
 show (l.map UInt8.ofNat).toArray.size=_
 simp
theorem lN.app {l m:List Nat} (h:lN l) (k:lN m):lN (l++m):=fun x hx=>by
 rcases List.mem_append.1 hx with hx | hx
 ·exact h x hx
 ·exact k x hx
theorem lN.nil:lN []:=fun x hx=>by cases hx
theorem lN.cons {x:Nat} {l:List Nat} (h:x<256) (k:lN l):lN (x::l):=fun y hy=>by
 rcases List.mem_cons.1 hy with rfl | hy
 ·exact h
 ·exact k y hy
theorem lN.sub {l m:List Nat} (h:lN l) (k:∀ x∈m,x∈l):lN m:=fun x hx=>h x (k x hx)
theorem lN.take {l:List Nat} (h:lN l) (n:Nat):lN (l.take n):=h.sub fun _ hx=>List.mem_of_mem_take hx
theorem lN.drop {l:List Nat} (h:lN l) (n:Nat):lN (l.drop n):=h.sub fun _ hx=>List.mem_of_mem_drop hx
theorem lN.get {l:List Nat} (h:lN l) {i:Nat} (hi:i<l.length):l[i]<256:=h _ (List.getElem_mem hi)
theorem yF {α:Type} {c:Bool} (h:c=true) (x y:α):(bif c then x else y)=x:=by rw [h]; rfl
theorem zX {α:Type} {c:Bool} (h:c=false) (x y:α):(bif c then x else y)=y:=by rw [h]; rfl
theorem sJ {w a:Nat} (h:a<2 ^ w):(BitVec.ofInt w (a:Int)).toNat=a:=by
 rw [BitVec.toNat_ofInt]
 have:((a:Int) % ((2 ^ w:Nat):Int))=((a % 2 ^ w:Nat):Int):=by omega
 rw [this,Nat.mod_eq_of_lt h]
 rfl
theorem Zr {n:Nat} (h:n<256):wrap .u8 (n:Int)=(n:Int):=bN (by omega) (by omega)
theorem xP {n:Nat} (h:n<9223372036854775808):wrap .i64 (n:Int)=(n:Int):=zZ (by omega) (by omega)
theorem Zt {n:Nat} (h:n<18446744073709551616):wrap .u64 (n:Int)=(n:Int):=iD (by omega) (by omega)
theorem qD (n:Nat):wrap .u8 (n:Int)=((n % 256:Nat):Int):=by rw [eV]; omega
theorem Qz {a b:Nat} (ha:a<256) (hb:b<256):FK .u8 (a:Int) (b:Int)=((a|||b:Nat):Int):=by
 unfold FK
 rw [BitVec.toNat_or,sJ (by exact ha),sJ (by exact hb),Zr (Nat.or_lt_two_pow (n:=8) ha hb)]
theorem Zu {a b:Nat} (ha:a<4611686018427387904) (hb:b<4611686018427387904):FK .i64 (a:Int) (b:Int)=((a|||b:Nat):Int):=by
 unfold FK
 have:=Nat.or_lt_two_pow (x:=a) (y:=b) (n:=62) ha hb
 rw [BitVec.toNat_or,sJ (by show a<2 ^ 64; omega),sJ (by show b<2 ^ 64; omega),xP (by omega)]
theorem Zv {a b:Nat} (ha:a<256) (hb:b<256):sN .u8 (a:Int) (b:Int)=((a&&&b:Nat):Int):=by
 unfold sN
 rw [BitVec.toNat_and,sJ (by exact ha),sJ (by exact hb),Zr (Nat.and_lt_two_pow (n:=8) a hb)]
theorem zPh {a b:Nat} (ha:a<4611686018427387904) (hb:b<4611686018427387904):sN .i64 (a:Int) (b:Int)=((a&&&b:Nat):Int):=by
 unfold sN
 have:=Nat.and_lt_two_pow (n:=62) a (y:=b) hb
 rw [BitVec.toNat_and,sJ (by show a<2 ^ 64; omega),sJ (by show b<2 ^ 64; omega),xP (by omega)]
theorem Zw {a s:Nat} (hs:s≤64) (h:a*2 ^ s<9223372036854775808):gZ .i64 (a:Int) (s:Int)=((a*2 ^ s:Nat):Int):=by
 unfold gZ
 have:min (s:Int).toNat (IntKind.bits .i64)=s:=by show min (s:Int).toNat 64=s; omega
 rw [this]
 have e:((a:Int)*2 ^ s)=((a*2 ^ s:Nat):Int):=by simp
 rw [e,xP h]
theorem ZL {k:IntKind} {a s:Nat} (hs:s≤k.bits):rM k (a:Int) (s:Int)=((a / 2 ^ s:Nat):Int):=by
 unfold rM
 have:min (s:Int).toNat k.bits=s:=by omega
 rw [this,Int.fdiv_eq_ediv_of_nonneg _ (by exact Int.le_of_lt (Int.pow_pos (by omega)))]
 simp
theorem zPb {k:IntKind} {a s:Nat} (hs:s≤k.bits):WJ k (a:Int) (s:Int)=some ((a / 2 ^ s:Nat):Int):=by
 unfold WJ
 rw [if_neg (by omega),ZL hs]
theorem Zx {a b s:Nat} (h:a<2 ^ s):a|||b*2 ^ s=a+b*2 ^ s:=by
 rw [Nat.or_comm,Nat.add_comm,Nat.mul_comm b]
 exact (Nat.two_pow_add_eq_or_of_lt h b).symm
def rep (L N:Nat):List Nat:=(List.range L).map fun j=>N / 256 ^ j % 256
@[simp] theorem Rf (L N:Nat):(rep L N).length=L:=by simp [rep]
def eR:Nat:=1
theorem zFn:eR≤1000:=by decide
theorem zOL {l:List Int} (h:l.length≤1):xX l 0 (l.length:Int)=some l:=by
 unfold xX
 have hw:wrap .i64 (0+1)=(1:Int):=by decide
 rw [hw,yR (t:=l) (by
  simp only
  rw [decide_eq_false (by omega:¬ ((1:Int)<(l.length:Int)))]
  rfl),AA]
theorem zOn {l:List Int} (h:l.length≤1) (q:Int):vB l 0 (l.length:Int) q=some l:=by
 unfold vB
 have hw:wrap .i64 ((l.length:Int) - 0)=(l.length:Int):=by
  rw [Int.sub_zero]; exact xP (by omega)
 rw [yR (t:=.inl l) (by
  simp only
  rw [hw,decide_eq_true (by omega:(l.length:Int)≤12),zOL h]
  simp [ZB]),AA]
 rfl
theorem zNC {l:List Int} (h:l.length≤1):∃ q,iX (wrap .u64 (l.length:Int))=some q:=by
 rcases l with _ | ⟨x,_ | ⟨y,r⟩⟩
 ·exact ⟨0,by kernel_rfl⟩
 ·exact ⟨1,by kernel_rfl⟩
 ·simp at h
theorem zUW {l:List Int} (h:l.length≤eR):rA l=some (l.mergeSort fun x y=>decide (x≤y)):=by
 have h:l.length≤1:=h
 obtain ⟨q,hq⟩:=zNC h
 unfold rA
 rw [hq,AA,zOn h,AA]
 have hm:(l.mergeSort fun x y=>decide (x≤y))=l:=by
  rcases l with _ | ⟨x,_ | ⟨y,r⟩⟩
  ·simp
  ·simp
  ·simp at h
 rw [hm]
 simp [ZB]
def Zy (m:Option (List (Int × List Int))):Option Unit:=some ()
theorem zOm {A:Option Nat} {m:Option (List (Int × List Int))} {r:Unit} (h:Zy m=some r):
  BA Tryz.prog 260 [.map A] [.res (yV (yH .u8) (CY AQ) A m)]
   (fun v F'=>∃ g,v= .func (.func 269) #[] #[.pointer (some ⟨g,0,none⟩)]∧F'= [.res (Box g 133 [.map A]), .res (yV (yH .u8) (CY AQ) A m)]):=by
 refine BA.intro Tryz.func260 O O O fun w R=>?_
 refine St.seq ?_
 refine St.region ?_
 refine St.box O O fun g=>?_
 refine St.p O O ?_
 refine St.done ?_
 refine St.AO ?_
 refine St.seq ?_
 refine St.region ?_
 iterate 2 refine St.p O O ?_
 refine St.done ?_
 refine St.AO ?_
 refine St.ret ?_
 exact St.QC Tryz.results260 (.tmp O .nil) O [.res (Box g 133 [.map A]), .res (yV (yH .u8) (CY AQ) A m)] ⟨g,O,O⟩ (fun _ w=>w)
def gO (m:Option (List (Int × List Int))):Option (List Int):=
 if (m.getD []).length≤eR then some (((m.getD []).map (·.1)).mergeSort fun x y=>decide (x≤y)) else none
theorem zNK {l l':List Int} (h:l.Perm l'):(l.mergeSort fun x y=>decide (x≤y))=l'.mergeSort fun x y=>decide (x≤y):=by
 have ht:∀ (a b c:Int),decide (a≤b)=true→decide (b≤c)=true→decide (a≤c)=true:=fun a b c h1 h2=>by simp at*; omega
 have hT:∀ (a b:Int),(decide (a≤b)||decide (b≤a))=true:=fun a b=>by simp; omega
 refine List.Perm.eq_of_pairwise (le:=fun x y=>decide (x≤y)=true) (fun a b _ _ h1 h2=>by simp at h1 h2; omega) (List.pairwise_mergeSort ht hT _) (List.pairwise_mergeSort ht hT _) ?_
 exact (List.mergeSort_perm _ _).trans (h.trans (List.mergeSort_perm _ _).symm)
theorem zOG {l l':List Int} (h:(l.map (yH .u8).v).Perm (l'.map (yH .u8).v)):l.Perm l':=by
 have e:∀ l:List Int,(l.map (yH .u8).v).filterMap (fun v=>match v with | .int _ x=>some x | _=>none)=l:=fun l=>by
  induction l with
  | nil=>rfl
  | cons x r ih=>rw [List.map_cons,List.filterMap_cons]; show x::_=_; rw [ih]
 have:=h.filterMap (fun v=>match v with | .int _ x=>some x | _=>none)
 rw [e,e] at this
 exact this
theorem zJe:BX Tryz.prog 272:=⟨_,Tryz.func272,by kernel_rfl,by kernel_rfl⟩
theorem zMk:BX Tryz.prog 267:=⟨_,Tryz.func267,by kernel_rfl,by kernel_rfl⟩
theorem zPQ:BX Tryz.prog 268:=⟨_,Tryz.func268,by kernel_rfl,by kernel_rfl⟩
theorem zNX {g:Nat} {A:Option Nat} {m:Option (List (Int × List Int))} (hm:(qK m).length≤1000):
  BA Tryz.prog 267 [.func (.func 269) #[] #[.pointer (some ⟨g,0,none⟩)]] [.res (Box g 133 [.map A]), .res (yV (yH .u8) (CY AQ) A m)]
   (fun v F'=>∃ B c ss,(ss.map (yH .u8).v).Perm ((qK m).map (yH .u8).v)∧v= .slice B ss.length c∧F'= [.res (Box g 133 [.map A]), .res (yV (yH .u8) (CY AQ) A m), .res (zI AQ 5 B c ss)]):=by
 refine BA.intro Tryz.func267 O O O fun w R=>?_
 refine St.seq ?_
 refine St.region ?_
 refine St.p O O ?_
 refine St.done ?_
 refine St.AO ?_
 refine St.seq ?_
 refine St.region ?_
 refine St.p O O ?_
 refine St.call (zLb hm) zJe O O O (fun _ w=>w) ?_
 rintro _ _ ⟨B,c,ss,hp,rfl,rfl⟩
 refine St.p O O ?_
 refine St.done ?_
 refine St.AO ?_
 refine St.ret ?_
 exact St.QC Tryz.results267 (.tmp O .nil) O [.res (Box g 133 [.map A]), .res (yV (yH .u8) (CY AQ) A m), .res (zI AQ 5 B c ss)] ⟨B,c,ss,hp,O,O⟩ (fun _ w=>w)
theorem zIU {g:Nat} {A:Option Nat} {m:Option (List (Int × List Int))} {r:List Int} (h:gO m=some r):
  BA Tryz.prog 259 [.func (.func 269) #[] #[.pointer (some ⟨g,0,none⟩)]] [.res (Box g 133 [.map A]), .res (yV (yH .u8) (CY AQ) A m)]
   (fun v F'=>∃ B c,v= .slice B r.length c∧F'= [.res (Box g 133 [.map A]), .res (yV (yH .u8) (CY AQ) A m), .res (zI AQ 5 B c r)]):=by
 unfold gO at h
 split at h
 ·rename_i hl
  injection h with h
  have hm0:(qK m).length≤eR:=by simpa [qK] using hl
  have hm:(qK m).length≤1000:=Nat.le_trans hm0 zFn
  refine BA.intro Tryz.func259 O O O fun w R=>?_
  refine St.seq ?_
  refine St.region ?_
  refine St.p O O ?_
  refine St.done ?_
  refine St.AO ?_
  refine St.seq ?_
  refine St.region ?_
  refine St.p O O ?_
  refine St.call (zNX hm) zMk O O O (fun _ w=>w) ?_
  rintro _ _ ⟨B,c,ss,hp,rfl,rfl⟩
  refine St.p O O ?_
  refine St.done ?_
  refine St.AO ?_
  have hpk:=zOG hp
  have hlen:ss.length≤eR:=by rw [hpk.length_eq]; exact hm0
  have hr:ss.mergeSort (fun x y=>decide (x≤y))=r:=by rw [zNK hpk]; exact h
  have hs8:=zUW hlen
  rw [hr] at hs8
  have hrl:ss.length=r.length:=by rw [←hr]; exact ((List.mergeSort_perm _ _).length_eq).symm
  refine St.seq ?_
  refine St.region ?_
  refine St.p O O ?_
  refine St.call (R:=.res (Box g 133 [.map A]):: .res (yV (yH .u8) (CY AQ) A m)::R) (fG hs8) zPQ O O O (fun _ w=>w.front (CS 2 O)) ?_
  rintro _ _ ⟨rfl,rfl⟩
  refine St.done ?_
  refine St.AO ?_
  refine St.seq ?_
  refine St.region ?_
  iterate 2 refine St.p O O ?_
  refine St.done ?_
  refine St.AO ?_
  refine St.ret ?_
  exact St.QC Tryz.results259 (.tmp O .nil) O [.res (Box g 133 [.map A]), .res (yV (yH .u8) (CY AQ) A m), .res (zI AQ 5 B c r)] ⟨B,c,by rw [hrl],O⟩ (fun _ w=>(w.front (CS 2 O)).front (CS 2 O))
 ·cases h
structure tH (α:Type) where
 e0:α
 e1:α
def tH.set {α:Type} (a:tH α) (q:Int) (y:α):Option (tH α):=match rJ [a.e0,a.e1] q y with | some [x0,x1]=>some ⟨x0,x1⟩ | _=>none
theorem tH.MI {α:Type} {a b:tH α} {q:Int} {y:α} (h:a.set q y=some b):rJ [a.e0,a.e1] q y=some [b.e0,b.e1]:=by
 unfold tH.set at h
 split at h
 ·rename_i hs; injection h with h; subst h; exact hs
 cases h
theorem iw {α β:Type} {l:List (α × β)} {a0 a1:α} (h:l.map (·.1)= [a0,a1]):∃ x0 x1,l= [(a0,x0),(a1,x1)]:=by
 match l,h with
 | [(_,x0),(_,x1)],h=>simp at h; obtain ⟨rfl,rfl⟩:=h; exact ⟨x0,x1,O⟩
structure zQ where
 BZ:Int
 CB:Int
 CJ:Int
structure zN where
 Name:ByteArray
 Version:zQ
 Data:(List Int)
structure yA where
 AU:zN
 Sum:Int
structure zB where
 Name:ByteArray
 Slots:(tH yA)
 Active:Int
 Running:Int
 BK:Bool
structure yX where
 EL:ByteArray
 From:zQ
 On:ByteArray
 At:zQ
structure zA where
 size:Int
 bytes:(List Int)
 BD:(List Int)
 steps:Int
 left:Int
 BQ:Int
 down:Bool
abbrev zG (x:zA) (A1:Option Addr) (c1:Nat) (A2:Option Addr) (c2:Nat):List Value:= [.int .i64 x.size, .slice A1 x.bytes.length c1, .slice A2 x.BD.length c2, .int .i64 x.steps, .int .i64 x.left, .int .u8 x.BQ, .bool x.down]
structure zE where
 d:Bool
 first:Int
 active:Int
 generation:Int
 all:(Option (List (Int × (List Int))))
 tail:Int
 clean:Bool
 ended:Bool
structure vR where
 generation:Int
 all:(Option (List (Int × (List Int))))
 tail:Int
 clean:Bool
structure zD where
 Key:Int
 Value:(List Int)
 Delete:Bool
def zJ:List (LC zD):= [.v (fun x=>.int .u8 x.Key) (fun _=>O), .s (CY AQ) (fun x=>x.Value), .v (fun x=>.bool x.Delete) (fun _=>O)]
abbrev Zz (x:vR) (M1:Option Nat):List Value:= [.int .i64 x.generation, .map M1, .int .i64 x.tail, .bool x.clean]
abbrev zR (x:zE) (g1:Nat) (M2:Option Nat):List Value:= [.pointer (kR x.d g1), .int .i64 x.first, .int .i64 x.active, .int .i64 x.generation, .map M2, .int .i64 x.tail, .bool x.clean, .bool x.ended]
structure WS (α:Type) where
 e0:α
 e1:α
 e2:α
def WS.set {α:Type} (a:WS α) (q:Int) (y:α):Option (WS α):=match rJ [a.e0,a.e1,a.e2] q y with | some [x0,x1,x2]=>some ⟨x0,x1,x2⟩ | _=>none
theorem WS.MI {α:Type} {a b:WS α} {q:Int} {y:α} (h:a.set q y=some b):rJ [a.e0,a.e1,a.e2] q y=some [b.e0,b.e1,b.e2]:=by
 unfold WS.set at h
 split at h
 ·rename_i hs; injection h with h; subst h; exact hs
 cases h
abbrev yO (x:zN) (A1:Option Addr) (c1:Nat):List Value:= [.string x.Name, .int .i64 x.Version.BZ, .int .i64 x.Version.CB, .int .i64 x.Version.CJ, .slice A1 x.Data.length c1]
abbrev zF (x:zB) (A1:Option Addr) (c1:Nat) (A2:Option Addr) (c2:Nat):List Value:= [.string x.Name, .string x.Slots.e0.AU.Name, .int .i64 x.Slots.e0.AU.Version.BZ, .int .i64 x.Slots.e0.AU.Version.CB, .int .i64 x.Slots.e0.AU.Version.CJ, .slice A1 x.Slots.e0.AU.Data.length c1, .int .u32 x.Slots.e0.Sum, .string x.Slots.e1.AU.Name, .int .i64 x.Slots.e1.AU.Version.BZ, .int .i64 x.Slots.e1.AU.Version.CB, .int .i64 x.Slots.e1.AU.Version.CJ, .slice A2 x.Slots.e1.AU.Data.length c2, .int .u32 x.Slots.e1.Sum, .int .i64 x.Active, .int .i64 x.Running, .bool x.BK]
structure xV where
 Size:Int
 Part:Int
 Have:(List Bool)
 Data:(List Int)
structure zM where
 store:Bool
 devices:(List zB)
 needs:(List yX)
 phase:Int
 load:xV
 before:Int
 order:(List Int)
def zC:List (LC zB):= [.v (fun x=>.string x.Name) (fun _=>O), .v (fun x=>.string x.Slots.e0.AU.Name) (fun _=>O), .v (fun x=>.int .i64 x.Slots.e0.AU.Version.BZ) (fun _=>O), .v (fun x=>.int .i64 x.Slots.e0.AU.Version.CB) (fun _=>O), .v (fun x=>.int .i64 x.Slots.e0.AU.Version.CJ) (fun _=>O), .s (CY AQ) (fun x=>x.Slots.e0.AU.Data), .v (fun x=>.int .u32 x.Slots.e0.Sum) (fun _=>O), .v (fun x=>.string x.Slots.e1.AU.Name) (fun _=>O), .v (fun x=>.int .i64 x.Slots.e1.AU.Version.BZ) (fun _=>O), .v (fun x=>.int .i64 x.Slots.e1.AU.Version.CB) (fun _=>O), .v (fun x=>.int .i64 x.Slots.e1.AU.Version.CJ) (fun _=>O), .s (CY AQ) (fun x=>x.Slots.e1.AU.Data), .v (fun x=>.int .u32 x.Slots.e1.Sum) (fun _=>O), .v (fun x=>.int .i64 x.Active) (fun _=>O), .v (fun x=>.int .i64 x.Running) (fun _=>O), .v (fun x=>.bool x.BK) (fun _=>O)]
def zS:Enc yX:=⟨8,fun x=> [.string x.EL, .int .i64 x.From.BZ, .int .i64 x.From.CB, .int .i64 x.From.CJ, .string x.On, .int .i64 x.At.BZ, .int .i64 x.At.CB, .int .i64 x.At.CJ],fun _=>O,fun _=>List.all_eq_true.1 O⟩
def vO:List (LC yA):= [.v (fun x=>.string x.AU.Name) (fun _=>O), .v (fun x=>.int .i64 x.AU.Version.BZ) (fun _=>O), .v (fun x=>.int .i64 x.AU.Version.CB) (fun _=>O), .v (fun x=>.int .i64 x.AU.Version.CJ) (fun _=>O), .s (CY AQ) (fun x=>x.AU.Data), .v (fun x=>.int .u32 x.Sum) (fun _=>O)]
abbrev tN (x:yA) (A1:Option Addr) (c1:Nat):List Value:= [.string x.AU.Name, .int .i64 x.AU.Version.BZ, .int .i64 x.AU.Version.CB, .int .i64 x.AU.Version.CJ, .slice A1 x.AU.Data.length c1, .int .u32 x.Sum]
structure yE where
 Name:ByteArray
 Version:zQ
def zK:Enc yE:=⟨4,fun x=> [.string x.Name, .int .i64 x.Version.BZ, .int .i64 x.Version.CB, .int .i64 x.Version.CJ],fun _=>O,fun _=>List.all_eq_true.1 O⟩
abbrev lS (x:yE):List Value:= [.string x.Name, .int .i64 x.Version.BZ, .int .i64 x.Version.CB, .int .i64 x.Version.CJ]
abbrev zIb (x:yX):List Value:= [.string x.EL, .int .i64 x.From.BZ, .int .i64 x.From.CB, .int .i64 x.From.CJ, .string x.On, .int .i64 x.At.BZ, .int .i64 x.At.CB, .int .i64 x.At.CJ]
abbrev zL (x:zM) (g1:Nat) (A2:Option Addr) (c2:Nat) (A3:Option Addr) (c3:Nat) (A4:Option Addr) (c4:Nat) (A5:Option Addr) (c5:Nat) (A6:Option Addr) (c6:Nat):List Value:= [.pointer (kR x.store g1), .slice A2 x.devices.length c2, .slice A3 x.needs.length c3, .int .i64 x.phase, .int .i64 x.load.Size, .int .i64 x.load.Part, .slice A4 x.load.Have.length c4, .slice A5 x.load.Data.length c5, .int .u8 x.before, .slice A6 x.order.length c6]
structure iI where
 ET:(List zN)
 Needs:(List yX)
def tJ:List (LC zN):= [.v (fun x=>.string x.Name) (fun _=>O), .v (fun x=>.int .i64 x.Version.BZ) (fun _=>O), .v (fun x=>.int .i64 x.Version.CB) (fun _=>O), .v (fun x=>.int .i64 x.Version.CJ) (fun _=>O), .s (CY AQ) (fun x=>x.Data)]
abbrev sM (x:xV) (A1:Option Addr) (c1:Nat) (A2:Option Addr) (c2:Nat):List Value:= [.int .i64 x.Size, .int .i64 x.Part, .slice A1 x.Have.length c1, .slice A2 x.Data.length c2]
structure xM where
 b:(List Int)
 at_:Int
 bad:Bool
structure lZ where
 Now:(List yE)
 Next:(List yE)
 Needs:(List yX)
structure yS where
 L:(List Int)
 At:Int
structure uV where
 d:Bool
 f:Bool
 a:Bool
 b:Bool
 needs:(List yX)
structure yD where
 Size:Int
 Data:(List Int)
 DT:(List Int)
 Steps:Int
 Left:Int
 JL:Int
 Down:Bool
abbrev yG (x:yD) (A1:Option Addr) (c1:Nat) (A2:Option Addr) (c2:Nat):List Value:= [.int .i64 x.Size, .slice A1 x.Data.length c1, .slice A2 x.DT.length c2, .int .i64 x.Steps, .int .i64 x.Left, .int .u8 x.JL, .bool x.Down]
structure zH where
 F_:Bool
 First:Int
 Active:Int
 Gen:Int
 Keys:(List zD)
 Tail:Int
 KA:Bool
abbrev yL (x:zH) (g1:Nat) (A2:Option Addr) (c2:Nat):List Value:= [.pointer (kR x.F_ g1), .int .i64 x.First, .int .i64 x.Active, .int .i64 x.Gen, .slice A2 x.Keys.length c2, .int .i64 x.Tail, .bool x.KA]
structure zY where
 store:Bool
 devices:(List zB)
 needs:(List yX)
 phase:Int
 BH:xV
 mask:Int
 order:(List Int)
abbrev yM (x:zY) (g1:Nat) (A2:Option Addr) (c2:Nat) (A3:Option Addr) (c3:Nat) (A4:Option Addr) (c4:Nat) (A5:Option Addr) (c5:Nat) (A6:Option Addr) (c6:Nat):List Value:= [.pointer (kR x.store g1), .slice A2 x.devices.length c2, .slice A3 x.needs.length c3, .int .i64 x.phase, .int .i64 x.BH.Size, .int .i64 x.BH.Part, .slice A4 x.BH.Have.length c4, .slice A5 x.BH.Data.length c5, .int .i64 x.mask, .slice A6 x.order.length c6]
abbrev l7 (x:uV) (g1:Nat) (g2:Nat) (g3:Nat) (g4:Nat) (A5:Option Addr) (c5:Nat):List Value:= [.pointer (kR x.d g1), .pointer (kR x.f g2), .pointer (kR x.a g3), .pointer (kR x.b g4), .slice A5 x.needs.length c5]
def l9:List (LC (List Int)):= [.s (CY AQ) (fun x=>x)]
def x9:List (LC Int):= [.v (fun x=>.int .u8 x) (fun _=>O)]
def zDl:List (LC (List zB)):= [.s (zT zC) (fun x=>x)]
def Rh:List (LC ByteArray):= [.v (fun x=>.string x) (fun _=>O)]
def zKH:List (LC (tH yA)):= [.v (fun x=>.string x.e0.AU.Name) (fun _=>O), .v (fun x=>.int .i64 x.e0.AU.Version.BZ) (fun _=>O), .v (fun x=>.int .i64 x.e0.AU.Version.CB) (fun _=>O), .v (fun x=>.int .i64 x.e0.AU.Version.CJ) (fun _=>O), .s (CY AQ) (fun x=>x.e0.AU.Data), .v (fun x=>.int .u32 x.e0.Sum) (fun _=>O), .v (fun x=>.string x.e1.AU.Name) (fun _=>O), .v (fun x=>.int .i64 x.e1.AU.Version.BZ) (fun _=>O), .v (fun x=>.int .i64 x.e1.AU.Version.CB) (fun _=>O), .v (fun x=>.int .i64 x.e1.AU.Version.CJ) (fun _=>O), .s (CY AQ) (fun x=>x.e1.AU.Data), .v (fun x=>.int .u32 x.e1.Sum) (fun _=>O)]
def zKn:List (LC zQ):= [.v (fun x=>.int .i64 x.BZ) (fun _=>O), .v (fun x=>.int .i64 x.CB) (fun _=>O), .v (fun x=>.int .i64 x.CJ) (fun _=>O)]
def Dz:List (LC Int):= [.v (fun x=>.int .i64 x) (fun _=>O)]
def uB (x:zQ):Prop:=(IX .i64) x.BZ∧(IX .i64) x.CB∧(IX .i64) x.CJ
def zUY:List (LC Int):= [.v (fun x=>.int .u32 x) (fun _=>O)]
def zTr:List (LC Bool):= [.v (fun x=>.bool x) (fun _=>O)]
def zKi:List (LC (List yX)):= [.s (CY zS) (fun x=>x)]
def zPL:List (LC yX):= [.v (fun x=>.string x.EL) (fun _=>O), .v (fun x=>.int .i64 x.From.BZ) (fun _=>O), .v (fun x=>.int .i64 x.From.CB) (fun _=>O), .v (fun x=>.int .i64 x.From.CJ) (fun _=>O), .v (fun x=>.string x.On) (fun _=>O), .v (fun x=>.int .i64 x.At.BZ) (fun _=>O), .v (fun x=>.int .i64 x.At.CB) (fun _=>O), .v (fun x=>.int .i64 x.At.CJ) (fun _=>O)]
def zIl (x:yX):Prop:=okS x.EL∧uB x.From∧okS x.On∧uB x.At
theorem zTZ:BX Tryz.prog 221:=en Tryz.func221 (by kernel_rfl)
theorem zUl:BX Tryz.prog 260:=en Tryz.func260 (by kernel_rfl)
theorem zTY:BX Tryz.prog 259:=en Tryz.func259 (by kernel_rfl)
theorem y5:BX Tryz.prog 98:=en Tryz.func98 (by kernel_rfl)
theorem zUo:BX Tryz.prog 219:=en Tryz.func219 (by kernel_rfl)
def oV (DI:Int) (GX:Int):Option (Int × Int):=
 some (wrap .u64 ((wrap .u64 ((wrap .u64 ((rM .u64 DI 32)*(rM .u64 GX 32)))+(rM .u64 (wrap .u64 ((wrap .u64 ((rM .u64 DI 32)*(sN .u64 GX 4294967295)))+(rM .u64 (wrap .u64 ((sN .u64 DI 4294967295)*(sN .u64 GX 4294967295))) 32))) 32)))+(rM .u64 (wrap .u64 ((sN .u64 (wrap .u64 ((wrap .u64 ((rM .u64 DI 32)*(sN .u64 GX 4294967295)))+(rM .u64 (wrap .u64 ((sN .u64 DI 4294967295)*(sN .u64 GX 4294967295))) 32))) 4294967295)+(wrap .u64 ((sN .u64 DI 4294967295)*(rM .u64 GX 32))))) 32)),wrap .u64 (DI*GX))
theorem zDn {DI GX r} (h:oV DI GX=some r):
    BA Tryz.prog 219 [.int .u64 DI, .int .u64 GX] [] (Val (.tuple #[.int .u64 r.1, .int .u64 r.2])):=by
 unfold oV at h
 refine BA.intro Tryz.func219 O O O fun w R=>?_;refine .ab [0,1] O<|.ab [0,1,6] O<|.ab [0,1,6,7] O<|.ab [0,1,6,7,8] O<|.ab [0,1,6,7,8,9] O<|.ab [0,1,6,7,8,9,10] O<|.ab [0,1,6,7,9,11] O<|.ab [0,1,6,7,9,11,12] O<|.ab [0,1,6,7,9,12,13] O<|.ab [0,1,7,9,12,13] O<|.ab [0,1,4] O<|.ab [4,5] O ?_;cases h;exact .rv O O ⟨O,O⟩ zw
theorem zTD:BX Tryz.prog 137:=en Tryz.func137 (by kernel_rfl)
def mS (DI:Int) (GX:Int):Option (Int × Int):=
 bnd (oV DI GX) fun r1=>some (r1.1,r1.2)
theorem zED {DI GX r} (h:mS DI GX=some r):
    BA Tryz.prog 137 [.int .u64 DI, .int .u64 GX] [] (Val (.tuple #[.int .u64 r.1, .int .u64 r.2])):=by
 refine BA.intro Tryz.func137 O O O fun w R=>?_;refine .ab [0,1] O<|.seq<|.FU O<|.sk<|.a 2 O<|.bd h fun r1 hr1 h=>.cv [] (zDn hr1) zUo O<|.b [8,9] O<|.ab [4,5] O ?_;cases h;exact .rv O O ⟨O,O⟩ zw
theorem zSi:BX Tryz.prog 57:=en Tryz.func57 (by kernel_rfl)
def uC [AP] (DI:(List Int)) (count:Int):Option (List Int):=
 bif decide (count<0) then (none) else (bnd (mS (wrap .u64 (DI.length:Int)) (wrap .u64 count)) fun r1=>bnd ((bif decide (r1.1>0) then (some true) else (some (decide (r1.2>9223372036854775807))):Option Bool)) fun o1=>bif o1 then (none) else (bnd (mkS 1 0 (wrap .i64 r1.2) (wrap .i64 r1.2)) fun l1=>bnd (eB l1 0 l1.length DI) fun l2=>bnd (yC (τ:=List Int) (fun (s1:Int × List Int)=>bif decide (s1.1<(s1.2.length:Int)) then (bnd (tD s1.2.length s1.1 (s1.2.length:Int)) fun n1=>bnd (tD s1.2.length 0 s1.1) fun n2=>bnd (sub s1.2 ((Int.toNat 0:Nat):Int) (((Int.toNat 0)+n2:Nat):Int)) fun l3=>bnd (eB s1.2 (Int.toNat s1.1) n1 l3) fun l4=>some (.next (wrap .i64 (s1.1+((min l3.length n1:Nat):Int)),l4))) else (some (.done s1.2))) (((min DI.length l1.length:Nat):Int),l2)) fun o2=>some o2))
theorem nF [AP] {DI count A1 c1 r} (h:uC DI count=some r):
    BA Tryz.prog 57 [.slice A1 DI.length c1, .int .i64 count] [.ro (AV AQ A1 c1 DI)] (fun v F=>∃ A2 c2,v= .slice A2 r.length c2∧F= [.res (zI AQ 5 A2 c2 r)]):=by
 refine BA.intro Tryz.func57 O O O fun w R=>?_;refine .ab [0,1] O<|.seq<|.ab [0,1,10] O<|.cb h O (fun h=>?_) (fun h=>?_)
 ·refine .region ?_;cases h
 refine .sk<|.pr [0,1] O<|.a 5 O<|.bd h fun r1 hr1 h=>.cv [] (zED hr1) zTD O<|.b [0,5,6] O<|.seq<|.seq<|.bd h fun o1 hj1 h=>.cu 0 [0,6, .s 26 (.bool o1)] [] O O ?_ ?_
 ·refine .region<|.n 3 O<|.gs 23 hj1 O (fun hj1=>?_) (fun hj1=>?_)
  ·cases hj1;exact .be O<|.hU O zw
  cases hj1;exact .be O<|.hU O zw
 refine .cb h O (fun h=>?_) (fun h=>?_)
 ·refine .region ?_;cases h
 refine .sk<|.pr [0,6] O<|.a 2 O<|.bd h fun l1 hl1 h=>.UR (E:=AQ) 0 hl1 O O O O O O O O O O fun g1=>.b [0,7] O<|.a 2 O<|.bd h fun l2 hl2 h=>.Di (E:=AQ) hl2 O O O O O .z (zMZ EO) O O O O ?_;refine .ss 7 (Yw hl2) ?_;refine .ss 31 (Yw hl2)<|.bf [7,8] [0] 1 O O<|.seq<|.bd h fun o2 hl1 h=>.DV 1 (fun (e3:Option Addr × Nat)=>[.s 7 (.slice e3.1 o2.length e3.2)]) (fun e3=>[.res (zI AQ 5 e3.1 e3.2 o2)]) O O ?_ ?_
 ·refine .block<|.BM hl1 1 (fun (s1:Int × List Int) (e2:Option Addr × Nat)=>[.s 7 (.slice e2.1 s1.2.length e2.2), .s 8 (.int .i64 s1.1)]) (fun s1 e2=>[.res (zI AQ 5 e2.1 e2.2 s1.2)]) O O ((some ⟨g1,0,none⟩),(Int.toNat (wrap .i64 r1.2))) (zb O) (fun _ w=>w) ?_;rintro s1 ⟨A2,c2⟩ st1 hm1 hd1 h1;refine .seq<|.ab [7,8,37] O<|.cb h1 O (fun h1=>?_) (fun h1=>?_)
  ·refine .sk<|.pr [7,8] O<|.block<|.bd h1 fun n1 hn1 h1=>.bd h1 fun n2 hn2 h1=>.bd h1 fun l3 hl3 h1=>.bd h1 fun l4 hl4 h1=>.BI (iN [0,4,8,16,20] (.alt (iN [15] (iN [27] (iN [31,32,36] .nil))) (iN [27] (iN [15] (iN [31,32,36] .nil))))) _ mixed (by kernel_rfl) (zl [] 1 O)<|.DX (Y:=?IZ) 0 (fun (e:Unit)=>[7,8, .s 38 (.int .i64 s1.1), .s 41 (.slice (dX A2 c2 (Int.toNat s1.1) 1) n1 (c2 - (Int.toNat s1.1))), .s 44 (.slice (dX A2 c2 (Int.toNat 0) 1) n2 (c2 - (Int.toNat 0)))]) (fun e=>[]) O O (fun DL=>?EQ) ?ER
   case EQ=>
    refine .yn 5 O<|.FY ?_ ?_
    ·refine .BV<|.part (E:=AQ) hn1 O O (.head _) O O O O O O O<|.xk (zl [] 1 O)<|.BV<|.part (E:=AQ) hn2 O O (.head _) O O O O O O O<|.xk (zl [] 1 O) ?_;refine DL _ _ () ?_ ?_
     ·exact ⟨O,O,O,O,O,trivial⟩
     exact fun _ w=>w
    refine .BV<|.part (E:=AQ) hn2 O O (.head _) O O O O O O O<|.xk (zl [] 1 O)<|.BV<|.part (E:=AQ) hn1 O O (.head _) O O O O O O O<|.xk (zl [] 1 O) ?_;refine DL _ _ () ?_ ?_
    ·exact ⟨O,O,O,O,O,trivial⟩
    exact fun _ w=>w
   case ER=>
    rintro ⟨⟩;refine .nm 1 O<|.BV<|.Dj (E:=AQ) kQ hl4 O O O (zTU hl3) .z (zOM (E:=AQ) kQ hl3 (.head _)) O O O O ?_;refine .ss 7 (Yw hl4)<|.xk (zl [] 1 O)<|.yn 2 O<|.CQ<|.BL ?_;cases h1;exact .AO<|.ag (A2,c2) hm1 O zw
  refine .xq O ?_;cases h1;cases hd1 _ rfl
  exact .AO<|.hE (A2,c2) O zw
 rintro ⟨A3,c3⟩;refine .ab [4] O ?_;cases h;exact .rv O O ⟨A3,c3,O,O⟩ zw
theorem iy:BX Tryz.prog 14:=en Tryz.func14 (by kernel_rfl)
def uJ [AP] (DU:Int) (size:Int):Option ((Option zA) × Int):=
 bnd ((bif decide (DU<1) then (some true) else (bif decide (DU>16) then (some true) else (bif decide (size<64) then (some true) else (some (decide (size>1024))))):Option Bool)) fun o1=>bif o1 then (some (none,2)) else (bnd (uC ([255]) (wrap .i64 (DU*size))) fun r1=>bnd (mkS 8 0 DU DU) fun l1=>some ((some (⟨size,r1,l1,0,0,0,false⟩:zA)),0))
theorem nC [AP] {DU size r} (h:uJ DU size=some r):
    BA Tryz.prog 14 [.int .i64 DU, .int .i64 size] [] (VE r.1 (fun v F=>v= .tuple #[.pointer none, .int .i64 r.2]∧F= []) (fun q_ v F=>∃ g1 A1 c1 A2 c2,v= .tuple #[.pointer (some ⟨g1,0,none⟩), .int .i64 r.2]∧F= [.res (Box g1 131 (zG q_ A1 c1 A2 c2)), .res (zI AQ 5 A1 c1 q_.bytes), .res (zI zU 3 A2 c2 q_.BD)])):=by
 refine BA.intro Tryz.func14 O O O fun w R=>?_;refine .ab [0,1] O<|.seq<|.seq<|.bd h fun o1 hj1 h=>.cu 0 [0,1, .s 19 (.bool o1)] [] O O ?_ ?_
 ·refine .region<|.n 3 O<|.gs 8 hj1 O (fun hj1=>?_) (fun hj1=>?_)
  ·cases hj1;exact .be O<|.hU O zw
  refine .n 4 O<|.gs 12 hj1 O (fun hj1=>?_) (fun hj1=>?_)
  ·cases hj1;exact .be O<|.hU O zw
  refine .n 4 O<|.gs 16 hj1 O (fun hj1=>?_) (fun hj1=>?_)
  ·cases hj1;exact .be O<|.hU O zw
  cases hj1;exact .be O<|.hU O zw
 refine .cb h O (fun h=>?_) (fun h=>?_)
 ·refine .ab [4,5] O ?_;cases h;exact .rv O O (wS ⟨O,O⟩) zw
 refine .sk<|.pr [0,1] O<|.seq<|.bd h fun r1 hr1 h=>.bd h fun l1 hl1 h=>.BI (iN [0,8,12,16,24] (.alt (iN [7] (.alt (iN [23] (iN [31,32] (iN [39,40,44] .nil))) (iN [31] (iN [23,32] (iN [39,40,44] .nil))))) (iN [31] (iN [7] (iN [23,32] (iN [39,40,44] .nil)))))) _ mixed (by kernel_rfl) zw<|.DX (Y:=?IZ) 0 (fun (e:Option Addr × Nat × Nat × Nat)=>[.s 20 (.int .i64 size), .s 25 (.slice e.1 r1.length e.2.1), .s 27 (.slice (some ⟨e.2.2.1,0,none⟩) l1.length (Int.toNat DU)), .s 28 (.agg #[.int .i64 size, .slice e.1 r1.length e.2.1, .slice (some ⟨e.2.2.1,0,none⟩) l1.length (Int.toNat DU), .int .i64 0, .int .i64 0, .int .u8 0, .bool false])]) (fun e=>[.res (zI zU 3 (some ⟨e.2.2.1,0,none⟩) (Int.toNat DU) l1), .res (zI AQ 5 e.1 e.2.1 r1), .ro (AV AQ (some ⟨e.2.2.2,0,none⟩) ([255]:List Int).length ([255]))]) O O (fun DL=>?EQ) ?ER
 case EQ=>
  refine .DX (Y:=?KZ) 0 (fun (e:Nat × Nat)=>[.s 20 (.int .i64 size), .s 21 (.slice (some ⟨e.1,0,none⟩) 1 1), .s 24 (.int .i64 (wrap .i64 (DU*size))), .s 27 (.slice (some ⟨e.2,0,none⟩) l1.length (Int.toNat DU))]) (fun e=>[.res (zI zU 3 (some ⟨e.2,0,none⟩) (Int.toNat DU) l1), .res (Box e.1 5 [.int .u8 255])]) O O (fun EU=>?GL) ?GN
  case GL=>
   refine .yn 5 O<|.FY ?_ ?_
   ·refine .BV<|.bS O fun g1=>.xk (zl [] 1 O)<|.FY ?_ ?_
    ·refine .BV<|.AY (fun _ w=>w.IL (E:=AQ) (e:=5) [255] O O)<|.AY (fun _ w=>w.BU)<|.cr 2 [0] [] 0 (nF hr1) zSi O fun A1 c1=>.xk (zl [] 2 O)<|.BV<|.UR (E:=zU) 0 hl1 O O O O O O O O O O fun g2=>.xk (zl [] 3 O)<|.yn 1 O ?_;refine DL _ _ (A1,c1,g2,g1) ?_ ?_
     ·exact ⟨O,O,O,O,trivial⟩
     exact fun _ w=>w
    refine .BV<|.UR (E:=zU) 0 hl1 O O O O O O O O O O fun g2=>.xk (zl [] 2 O) ?_;refine EU _ _ (g1,g2) ?_ ?_
    ·exact ⟨O,O,O,O,trivial⟩
    exact fun _ w=>w
   refine .BV<|.UR (E:=zU) 0 hl1 O O O O O O O O O O fun g2=>.xk (zl [] 1 O)<|.BV<|.bS O fun g1=>.xk (zl [] 2 O) ?_;refine EU _ _ (g1,g2) ?_ ?_
   ·exact ⟨O,O,O,O,trivial⟩
   exact fun _ w=>(w.sl [1] 0 O)
  case GN=>
   rintro ⟨g1,g2⟩;refine .nm 2 O<|.BV<|.AY (fun _ w=>(w.sl [1] 0 O).IL (E:=AQ) (e:=5) [255] O O)<|.AY (fun _ w=>w.BU)<|.cr 3 [0] [] 0 (nF hr1) zSi O fun A1 c1=>.xk (zl [] 3 O)<|.yn 1 O ?_;refine DL _ _ (A1,c1,g2,g1) ?_ ?_
   ·exact ⟨O,O,O,O,trivial⟩
   exact fun _ w=>(w.sl [2] 0 O)
 case ER=>
  rintro ⟨A1,c1,g2,g1⟩;refine .nm 3 O<|.BV<|.box O O fun g3=>.xk (zl [] 4 O)<|.yn 2 O<|.CQ<|.AO<|.pf [4,5] [0,0,0] 1 O O ?_;cases h;exact .rv O O (mI ⟨g3,A1,c1,(some ⟨g2,0,none⟩),(Int.toNat DU),O,O⟩) (zl [0,1] 0 O)
theorem zVg:BX Tryz.prog 58:=en Tryz.func58 (by kernel_rfl)
def sE (AB:zA):Option Int:=
 some (AB.BD.length:Int)
theorem aD {AB A1 c1 A2 c2 AZ r} (h:sE AB=some r):
    BA Tryz.prog 58 [.pointer (some ⟨AZ,0,none⟩)] [.res (Box AZ 131 (zG AB A1 c1 A2 c2)), .res (zI AQ 5 A1 c1 AB.bytes), .res (zI zU 3 A2 c2 AB.BD)] (fun v F=>v= .int .i64 r∧F= [.res (Box AZ 131 (zG AB A1 c1 A2 c2)), .res (zI AQ 5 A1 c1 AB.bytes), .res (zI zU 3 A2 c2 AB.BD)]):=by
 unfold sE at h
 refine BA.intro Tryz.func58 O O O fun w R=>?_;refine .ab [0] O<|.a 3 O<|.lb 2 0 O<|.b [2] O ?_;cases h;exact .rv O O ⟨O,O⟩ zw
theorem ja:BX Tryz.prog 59:=en Tryz.func59 (by kernel_rfl)
def yJ (AB:zA):Option Int:=
 some AB.size
theorem vA {AB A1 c1 A2 c2 AZ r} (h:yJ AB=some r):
    BA Tryz.prog 59 [.pointer (some ⟨AZ,0,none⟩)] [.res (Box AZ 131 (zG AB A1 c1 A2 c2)), .res (zI AQ 5 A1 c1 AB.bytes), .res (zI zU 3 A2 c2 AB.BD)] (fun v F=>v= .int .i64 r∧F= [.res (Box AZ 131 (zG AB A1 c1 A2 c2)), .res (zI AQ 5 A1 c1 AB.bytes), .res (zI zU 3 A2 c2 AB.BD)]):=by
 unfold yJ at h
 refine BA.intro Tryz.func59 O O O fun w R=>?_;refine .ab [0] O<|.a 3 O<|.lb 0 0 O<|.b [2] O ?_;cases h;exact .rv O O ⟨O,O⟩ zw
theorem zPy:BX Tryz.prog 138:=en Tryz.func138 (by kernel_rfl)
def uO (AB:zA) (CW:Int) (GR:Int):Option Bool:=
 bnd ((bif decide (CW≥0) then (bif decide (CW≤(AB.bytes.length:Int)) then (bif decide (GR≥0) then (some (decide (GR≤(wrap .i64 ((AB.bytes.length:Int) - CW))))) else (some false)) else (some false)) else (some false):Option Bool)) fun o1=>some o1
theorem jA {AB CW GR A1 c1 A2 c2 AZ r} (h:uO AB CW GR=some r):
    BA Tryz.prog 138 [.pointer (some ⟨AZ,0,none⟩), .int .i64 CW, .int .i64 GR] [.res (Box AZ 131 (zG AB A1 c1 A2 c2)), .res (zI AQ 5 A1 c1 AB.bytes), .res (zI zU 3 A2 c2 AB.BD)] (fun v F=>v= .bool r∧F= [.res (Box AZ 131 (zG AB A1 c1 A2 c2)), .res (zI AQ 5 A1 c1 AB.bytes), .res (zI zU 3 A2 c2 AB.BD)]):=by
 refine BA.intro Tryz.func138 O O O fun w R=>?_;refine .ab [0,1,2] O<|.seq<|.bd h fun o1 hj1 h=>.cu 0 [.s 6 (.bool o1)] [] O O ?_ ?_
 ·refine .region<|.n 3 O<|.gs 9 hj1 O (fun hj1=>?_) (fun hj1=>?_)
  ·refine .n 4 O<|.BN O O<|.lb 1 0 O<|.n 4 O<|.gs 18 hj1 O (fun hj1=>?_) (fun hj1=>?_)
   ·refine .n 4 O<|.gs 22 hj1 O (fun hj1=>?_) (fun hj1=>?_)
    ·refine .n 4 O<|.BN O O<|.lb 1 0 O ?_;cases hj1;exact .be O<|.hU O zw
    cases hj1;exact .be O<|.hU O zw
   cases hj1;exact .be O<|.hU O zw
  cases hj1;exact .be O<|.hU O zw
 cases h;exact .rv O O ⟨O,O⟩ zw
theorem aJ:BX Tryz.prog 75:=en Tryz.func75 (by kernel_rfl)
def zV (AX:(List Int)):Option (List Int):=
 bnd (app 1 ([]) AX) fun l1=>some l1
theorem yN {AX A1 c1 r} (h:zV AX=some r):
    BA Tryz.prog 75 [.slice A1 AX.length c1] [.ro (AV AQ A1 c1 AX)] (fun v F=>∃ A2 c2,v= .slice A2 r.length c2∧F= [.res (zI AQ 5 A2 c2 r)]):=by
 unfold zV at h
 refine BA.intro Tryz.func75 O O O fun w R=>?_
 rcases A1 with _ | ad
 ·refine .fact (φ:=AX= []) (fun w hf=>(hf.ro (r:=AV AQ none c1 AX) (.head _)).2.2.1 O) fun hs=>?_;subst hs;have h:(some ([]):Option (List Int))=some r:=by simpa [app,bnd] using h
  refine .ab [0] O<|.seq<|.ab [0,4] O<|.EP O<|.EK [2] [] 1 O O<|.AY (fun _ w=>w.HY AQ 5) ?_;cases h;exact .rv O O ⟨none,0,O,O⟩ zw
 refine .ab [0] O<|.seq<|.ab [0,4] O<|.FU O<|.sk<|.pr [0] O<|.seq<|.region<|.bS O fun g1=>.p O O<|.AY (fun _ w=>w.IL (E:=AQ) (e:=5) [] O O)<|.bd h fun l1 hl1 h=>.app (E:=AQ) hl1 O O O .z O O O O O O O O (gU EO) O O fun A2 c2=>.bf [2] [0] 1 O O ?_;cases h;exact .rv O O ⟨A2,c2,O,O⟩ zw
theorem zSe:BX Tryz.prog 60:=en Tryz.func60 (by kernel_rfl)
def uE (AB:zA) (CW:Int) (GR:Int):Option (zA × (List Int) × Int):=
 bif AB.down then (some (AB, [],10)) else (bnd (uO AB CW GR) fun r1=>bif !r1 then (some (AB, [],2)) else (bnd (tD AB.bytes.length CW (wrap .i64 (CW+GR))) fun n1=>bnd (sub AB.bytes ((Int.toNat CW:Nat):Int) (((Int.toNat CW)+n1:Nat):Int)) fun l1=>bnd (zV l1) fun r2=>some (AB,r2,0)))
theorem gI {AB CW GR A1 c1 A2 c2 AZ r} (h:uE AB CW GR=some r):
    BA Tryz.prog 60 [.pointer (some ⟨AZ,0,none⟩), .int .i64 CW, .int .i64 GR] [.res (Box AZ 131 (zG AB A1 c1 A2 c2)), .res (zI AQ 5 A1 c1 AB.bytes), .res (zI zU 3 A2 c2 AB.BD)] (fun v F=>∃ A3 c3 A4 c4 A5 c5,v= .tuple #[.slice A5 r.2.1.length c5, .int .i64 r.2.2]∧F= [.res (Box AZ 131 (zG r.1 A3 c3 A4 c4)), .res (zI AQ 5 A3 c3 r.1.bytes), .res (zI zU 3 A4 c4 r.1.BD), .res (zI AQ 5 A5 c5 r.2.1)]):=by
 refine BA.intro Tryz.func60 O O O fun w R=>?_;refine .ab [0,1,2] O<|.seq<|.block<|.a 3 O<|.lb 6 0 O<|.b [0,1,2,8] O<|.cb h O (fun h=>?_) (fun h=>?_)
 ·refine .ab [6,7] O<|.AY (fun _ w=>w.HY AQ 5) ?_;cases h;exact .rv O O ⟨A1,c1,A2,c2,none,0,O,O⟩ (zl [1,1,1] 0 O)
 refine .a 3 O<|.bd h fun r1 hr1 h=>.cq 3 [] [] 0 (jA hr1) zPy O<|.b [0,1,2,13] O<|.cb h O (fun h=>?_) (fun h=>?_)
 ·refine .ab [6,7] O<|.AY (fun _ w=>w.HY AQ 5) ?_;cases h;exact .rv O O ⟨A1,c1,A2,c2,none,0,O,O⟩ (zl [1,1,1] 0 O)
 refine .skip<|.BL<|.AO<|.pr [0,1,2] O<|.a 3 O<|.lb 1 0 O<|.n 4 O<|.bd h fun n1 hn1 h=>.part (E:=AQ) hn1 O O EO O O O O O O O<|.bd h fun l1 hl1 h=>?_;refine .ss 27 (mM hl1)<|.bd h fun r2 hr2 h=>.TJ (yN hr2) aJ O O O O (mG.part kQ hl1 EO mG.nil) (by rintro _ _ ⟨_,_,rfl,rfl⟩; exact ⟨zHV _ _ _ _ _,True.intro⟩) ?_;rintro _ _ ⟨A3,c3,rfl,rfl⟩;refine .nm 4 O<|.b [6,7] O ?_;cases h;exact .rv O O ⟨A1,c1,A2,c2,A3,c3,O,O⟩ (zl [1,1,1] 0 O)
theorem zSY:BX Tryz.prog 220:=en Tryz.func220 (by kernel_rfl)
def rV (BF:(List Int)):Option (zD × Int × Bool):=
 bif decide ((BF.length:Int)<2) then (some ((⟨0, [],false⟩:zD),0,false)) else (bnd (BP BF 1) fun x1=>bif (x1==128) then (bnd (BP BF 0) fun x2=>some ((⟨x2, [],true⟩:zD),2,true)) else (bnd ((bif decide (x1>28) then (some true) else (some (decide ((BF.length:Int)<(wrap .i64 (2+(wrap .i64 x1)))))):Option Bool)) fun o1=>bif o1 then (some ((⟨0, [],false⟩:zD),0,false)) else (bnd (BP BF 0) fun x3=>bnd (sub BF 2 (wrap .i64 (2+(wrap .i64 x1)))) fun l1=>bnd (zV l1) fun r1=>some ((⟨x3,r1,false⟩:zD),wrap .i64 (2+(wrap .i64 x1)),true))))
theorem zCC {BF A1 c1 r} (h:rV BF=some r):
    BA Tryz.prog 220 [.slice A1 BF.length c1] [.ro (AV AQ A1 c1 BF)] (fun v F=>∃ A2 c2,v= .tuple #[.agg #[.int .u8 r.1.Key, .slice A2 r.1.Value.length c2, .bool r.1.Delete], .int .i64 r.2.1, .bool r.2.2]∧F= [.ro (AV AQ A2 c2 r.1.Value)]):=by
 refine BA.intro Tryz.func220 O O O fun w R=>?_;refine .seq<|.region<|.alloc O O fun g1=>.b [0,2] O<|.seq<|.block<|.ab [0,2,6] O<|.cb h O (fun h=>?_) (fun h=>?_)
 ·refine .a 1 O<|.sb 0 0 O<|.bf [2,3,4] [0] 1 O O<|.AY (fun _ w=>w.CU (CY AQ)) ?_;cases h;exact .rt O Tryz.results220 (.cell O EO O (.tmp O (.tmp O .nil))) O ⟨none,0,O,O⟩ (zk 1 2 [0] [] 0 O)
 refine .a 1 O<|.bd h fun x1 hx1 h=>.IB hx1 1 O fun b1 DY=>.ld DY 0 0 O<|.bf [0,2,11] [] 1 O O<|.cb h O (fun h=>?_) (fun h=>?_)
 ·refine .a 1 O<|.bd h fun x2 hx2 h=>.IB hx2 1 O fun b2 JD=>.ld JD 0 0 O<|.p O O<|.sb 0 1 O<|.bf [2,3,4] [0] 2 O O<|.AY (fun _ w=>w.CU (CY AQ)) ?_;cases h;exact .rt O Tryz.results220 (.cell O EO O (.tmp O (.tmp O .nil))) O ⟨none,0,O,O⟩ (zk 1 2 [0] [] 0 O)
 refine .skip<|.BL<|.AO<|.pr [0,2] O<|.a 1 O<|.IB hx1 1 O fun b3 MP=>.ld MP 0 0 O<|.bf [0,2,5] [] 1 O O<|.seq<|.seq<|.bd h fun o1 hj1 h=>.cu 0 [0,2,5, .s 34 (.bool o1)] [] O O ?_ ?_
 ·refine .region<|.p O O<|.IB hx1 1 O fun b4 TY=>.ld TY 0 0 O<|.n 2 O<|.gs 29 hj1 O (fun hj1=>?_) (fun hj1=>?_)
  ·cases hj1;exact .be O<|.hU O (zl [] 1 O)
  cases hj1;exact .be O<|.hU O (zl [] 1 O)
 refine .cb h O (fun h=>?_) (fun h=>?_)
 ·refine .a 1 O<|.sb 0 0 O<|.bf [2,3,4] [0] 1 O O<|.AY (fun _ w=>w.CU (CY AQ)) ?_;cases h;exact .rt O Tryz.results220 (.cell O EO O (.tmp O (.tmp O .nil))) O ⟨none,0,O,O⟩ (zk 1 2 [0] [] 0 O)
 refine .sk<|.pr [0,2,5] O<|.seq<|.BI (iN [0,4,8,12,16,21,32,27,28,39,40,44] .nil) _ mixed (by kernel_rfl) (zl [] 1 O)<|.yn 1 O<|.bd h fun x3 hx3 h=>.JZ EO hx3 fun b5 YD jc=>.AY (fun _ w=>Sat.JE jc EO hx3 w) ?_;have hc1:=fun w h=>Sat.JE jc (.head _) hx3 ((fun (w:World) (h:Sat (.ro (AV AQ A1 c1 BF)::R) w)=>h) w h);refine .KT (fun _ h=>h) (Rd.SY (E:=AQ) jc hx3 O O O O O O O) O<|.KT hc1 (Rd.load YD 0 O (.head _) O O) O<|.yn 2 O<|.bd h fun l1 hl1 h=>.Cj (zm 2 O) hl1 fun A2 c2 hS1=>?_;have hc2:=fun w h=>Sat.Yq hS1 EO hl1 (hc1 w h);refine .JC (Rd.sub hS1 hl1 (zm 3 O) O O O O O O O O) O<|.yn 1 O<|.BV<|.bd h fun r1 hr1 h=>.cr 5 [0] [] 0 (yN hr1) aJ O fun A3 c3=>.xk (zl [] 4 O)<|.yn 1 O<|.BV<|.sb 0 3 O<|.xk (zl [] 4 O)<|.yn 2 O<|.CQ<|.AO<|.pf [2,3,4] [0,0] 3 O O<|.AY (fun _ w=>(w.sl [1] 0 O).BU) ?_;cases h;exact .rt O Tryz.results220 (.cell O EO O (.tmp O (.tmp O .nil))) O ⟨A3,c3,O,O⟩ (zk 1 2 [0] [] 0 O)
theorem zTQ:BX Tryz.prog 139:=en Tryz.func139 (by kernel_rfl)
def pD [AP] (BF:(List Int)):Option ((List zD) × Int × Bool):=
 bnd ((bif ((BF.length:Int)==0) then (some true) else (bnd (BP BF 0) fun x1=>bif decide (x1<1) then (some true) else (some (decide (x1>32)))):Option Bool)) fun o1=>bif o1 then (some ([],0,false)) else (bnd (BP BF 0) fun x2=>bnd (yC (τ:=((List zD) × Int × Bool) ⊕ (List zD × Int)) (fun (s1:List zD × Int × Int)=>bif decide (s1.2.2<x2) then (bnd (sub BF s1.2.1 (BF.length:Int)) fun l1=>bnd (rV l1) fun r1=>bif !r1.2.2 then (some (.done (.inl ([],0,false)))) else (bnd (app 40 s1.1 [r1.1]) fun l2=>some (.next (l2,wrap .i64 (s1.2.1+r1.2.1),wrap .u8 (s1.2.2+1))))) else (some (.done (.inr (s1.1,s1.2.1))))) ([],1,0)) fun o2=>xL o2 fun o3=>bnd ((bif (o3.2==(BF.length:Int)) then (some true) else (bnd (BP BF o3.2) fun x3=>some (x3 != 0)):Option Bool)) fun o4=>bif o4 then (some ([],0,false)) else (some (o3.1,wrap .i64 (o3.2+1),true)))
theorem zDR [AP] {BF A1 c1 r} (h:pD BF=some r):
    BA Tryz.prog 139 [.slice A1 BF.length c1] [.ro (AV AQ A1 c1 BF)] (fun v F=>∃ A2 c2,v= .tuple #[.slice A2 r.1.length c2, .int .i64 r.2.1, .bool r.2.2]∧F= [.res (yU (zT zJ) 107 A2 c2 r.1)]):=by
 refine BA.intro Tryz.func139 O O O fun w R=>?_;refine .ab [0] O<|.seq<|.seq<|.bd h fun o1 hj1 h=>.cu 0 [0, .s 24 (.bool o1)] [] O O ?_ ?_
 ·refine .region<|.n 4 O<|.gs 13 hj1 O (fun hj1=>?_) (fun hj1=>?_)
  ·cases hj1;exact .be O<|.hU O zw
  refine .n 1 O<|.BN O O<|.bd hj1 fun x1 hx1 hj1=>.IB hx1 0 O fun b1 DY=>.BN O O<|.ld DY 0 0 O<|.n 3 O<|.gs 19 hj1 O (fun hj1=>?_) (fun hj1=>?_)
  ·cases hj1;exact .be O<|.hU O (zl [] 1 O)
  refine .n 1 O<|.BN O O<|.IB hx1 1 O fun b2 JD=>.BN O O<|.ld JD 0 0 O ?_;cases hj1;exact .be O<|.hU O (zl [] 2 O)
 refine .cb h O (fun h=>?_) (fun h=>?_)
 ·refine .EK [2,3,4] [] 1 O O<|.AY (fun _ w=>w.MK (zT zJ) 107) ?_;cases h;exact .rv O O ⟨none,0,O,O⟩ zw
 refine .sk<|.pr [0] O<|.ae O<|.ae O<|.seq<|.a 1 O<|.bd h fun x2 hx2 h=>.IB hx2 0 O fun b3 MP=>.ld MP 0 0 O<|.bf [0,5,6,27,28] [] 1 O O<|.AY (fun _ w=>w.MK (zT zJ) 107)<|.bd h fun o2 hl1 h=>.ES 1 (fun (o3:List zD × Int) (e3:Option Addr × Nat)=>[0, .s 5 (.slice e3.1 o3.1.length e3.2), .s 6 (.int .i64 o3.2)]) (fun o3 e3=>[.res (yU (zT zJ) 107 e3.1 e3.2 o3.1)]) O O (fun o3=>o2= .inr o3) ?_ ?_
 ·refine .block<|.BM hl1 1 (fun (s1:List zD × Int × Int) (e2:Option Addr × Nat)=>[0, .s 5 (.slice e2.1 s1.1.length e2.2), .s 6 (.int .i64 s1.2.1),27, .s 28 (.int .u8 s1.2.2)]) (fun s1 e2=>[.res (yU (zT zJ) 107 e2.1 e2.2 s1.1)]) O O (none,0) (zb O) (fun _ w=>w) ?_;rintro s1 ⟨A2,c2⟩ st1 hm1 hd1 h1;refine .ae O<|.seq<|.cb h1 O (fun h1=>?_) (fun h1=>?_)
  ·refine .sk<|.pr [0,5,6,27,28] O<|.seq<|.block<|.a 2 O<|.bd h1 fun l1 hl1 h1=>.sub (E:=(CY AQ)) O O EO O O O O O O O hl1 fun A4 c4=>.bd h1 fun r1 hr1 h1=>.cr 4 [0] [] 0 (zCC hr1) zSY O fun A5 c5=>.n 4 O<|.alloc O O fun g1=>.sb 0 0 O<|.bf [0,5,6,7,8,9,27,28] [0,0] 1 O O<|.seq<|.ab [0,5,6,7,8,27,28,39] O<|.cb h1 O (fun h1=>?_) (fun h1=>?_)
   ·refine .EK [2,3,4] [] 4 O O<|.AY (fun _ w=>w.MK (zT zJ) 107) ?_;cases h1;cases hd1 _ rfl
    have h:some _=some _:=h;cases h;exact .rv O O ⟨none,0,O,O⟩ zw
   refine .sk<|.pr [0,5,6,7,8,27,28] O<|.region<|.p O O<|.lb 0 0 O<|.bS O fun g2=>.bd h1 fun l2 hl2 h1=>.LW (E:=(zT zJ)) hl2 O O O (CS 3 O) O O O O O O O O (cV (ls:=zJ) [(r1.1,((A5,c5),()))] (.head _) O O O ⟨(zm 2 O),trivial⟩) O O fun A6 c6=>.n 5 O<|.done<|.BL<|.AO<|.pf [0,5,6,27,28] [0] 3 O O<|.region ?_;cases h1;exact .be O<|.ag (A6,c6) hm1 O zw
  refine .xq O ?_;cases h1;cases hd1 _ rfl
  exact .AO<|.CZ (s1.1,s1.2.1) (A2,c2) O (zb O) zw
 rintro o3 ⟨A3,c3⟩ ho;subst ho;have h:=JG h;refine .seq<|.seq<|.bd h fun o4 hj2 h=>.cu 2 [5,6, .s 58 (.bool o4)] [0] O O ?_ ?_
 ·refine .region<|.n 5 O<|.gs 52 hj2 O (fun hj2=>?_) (fun hj2=>?_)
  ·cases hj2;exact .be O<|.hU O (zl [0] 1 O)
  refine .n 2 O<|.BN O O<|.bd hj2 fun x3 hx3 hj2=>.IB hx3 1 O fun b4 TY=>.BN O O<|.ld TY 0 0 O ?_;cases hj2;exact .be O<|.hU O (zl [1] 2 O)
 refine .cb h O (fun h=>?_) (fun h=>?_)
 ·refine .EK [2,3,4] [] 1 O O<|.AY (fun _ w=>w.MK (zT zJ) 107) ?_;cases h;exact .rv O O ⟨none,0,O,O⟩ zw
 refine .sk<|.pr [5,6] O<|.ab [2,3,4] O ?_;cases h;exact .rv O O ⟨A3,c3,O,O⟩ zw
theorem zQS:BX Tryz.prog 140:=en Tryz.func140 (by kernel_rfl)
def wM [AP] (EM:(Option (List (Int × (List Int))))) (FB:(List zD)):Option (Option (List (Int × (List Int)))):=
 bnd (Zg EM) fun r1=>bnd (yC (τ:=(Option (List (Int × (List Int))))) (fun (s1:Int × (Option (List (Int × (List Int)))))=>bif decide (s1.1<(FB.length:Int)) then (bnd (BP FB s1.1) fun x1=>bif x1.Delete then (some (.next (wrap .i64 (s1.1+1),(s1.2.map fun l=>TV (yH .u8).eq l x1.Key)))) else (bnd (zV x1.Value) fun r2=>bnd (mapM s1.2) fun m1=>some (.next (wrap .i64 (s1.1+1),(some (nX (yH .u8).eq m1 x1.Key r2)))))) else (some (.done s1.2))) (0,r1)) fun o1=>some o1
theorem mJ [AP] {EM FB A1 c1 M1 r} (h:wM EM FB=some r):
    BA Tryz.prog 140 [.map M1, .slice A1 FB.length c1] [.ro (Sl (zT zJ) A1 c1 FB), .res (yV (yH .u8) (CY AQ) M1 EM)] (fun v F=>∃ M2,v= .map M2∧F= [.res (yV (yH .u8) (CY AQ) M1 EM), .res (yV (yH .u8) (CY AQ) M2 r)]):=by
 refine BA.intro Tryz.func140 O O O fun w R=>?_;refine .ab [0,1] O<|.a 1 O<|.bd h fun r1 hr1 h=>.call (zKf hr1) zTZ O O O (zl [1] 0 O) ?_;rintro _ _ ⟨M2,rfl,rfl⟩;refine .nm 3 O<|.b [1,5] O<|.seq<|.ab [5,10,11,12] O<|.bd h fun o1 hl1 h=>.DV 3 (fun (e2:Option Nat)=>[.s 5 (.map e2)]) (fun e2=>[.res (yV (yH .u8) (CY AQ) e2 o1),0]) O O ?_ ?_
 ·refine .block<|.BM hl1 2 (fun (s1:Int × (Option (List (Int × (List Int))))) (e1:Option Nat)=>[.s 5 (.map e1),10,11, .s 12 (.int .i64 s1.1)]) (fun s1 e1=>[.res (yV (yH .u8) (CY AQ) e1 s1.2),0]) O O M2 (zb O) (zl [1] 0 O) ?_;rintro s1 M3 st1 hm1 hd1 h1;refine .ae O<|.seq<|.cb h1 O (fun h1=>?_) (fun h1=>?_)
  ·refine .sk<|.pr [5,10,11,12] O<|.seq<|.block<|.seq<|.region<|.bd h1 fun x1 hx1 h1=>.KY hx1 2 O fun b1 DY FC=>?_;obtain ⟨⟨A2,c2⟩,_⟩:=FC;refine .nm 5 O<|.ld DY 0 0 O<|.alloc O O fun g1=>.sb 0 0 O<|.bf [5,7,10,11,12] [0] 1 O O<|.a 1 O<|.lb 2 0 O<|.b [5,7,10,11,12,17] O<|.cb h1 O (fun h1=>?_) (fun h1=>?_)
   ·refine .region<|.n 2 O<|.lb 0 0 O<|.QJ (K:=(yH .u8)) x1.Key O O (CS 2 O) O O O O O<|.done<|.BL<|.AO<|.pf [5,10,11,12] [0] 2 O O<|.region ?_;cases h1;exact .be O<|.ag M3 hm1 O zw
   refine .BI (iN [0,4,8,12,17,23,27] .nil) _ mixed (by kernel_rfl) (zl [0,0] 1 O)<|.yn 2 O<|.yl 0 0 O<|.yn 1 O<|.yx 1 0 O<|.BV<|.bd h1 fun r2 hr2 h1=>.cr 6 [1] [] 0 (yN hr2) aJ O fun A3 c3=>.xk (zl [1,1] 2 O)<|.BV<|.AY (fun _ w=>w.BU)<|.bd h1 fun m1 hm1 h1=>.RN (K:=(yH .u8)) hm1 x1.Key O O O O (CS 3 O) (.head _) O O O O<|.xk (zl [] 2 O)<|.CQ<|.BL<|.AO<|.pf [5,10,11,12] [0] 3 O O<|.region ?_;cases h1;exact .be O<|.ag M3 hm1 O zw
  refine .xq O ?_;cases h1;cases hd1 _ rfl
  exact .AO<|.hE M3 O (zl [0,0] 1 O)
 rintro M4;refine .ab [4] O ?_;cases h;exact .rv O O ⟨M4,O,O⟩ (zl [1] 0 O)
theorem zSQ:BX Tryz.prog 223:=en Tryz.func223 (by kernel_rfl)
def sZ (DI:Int):Option Bool:=
 some (DI != 255)
theorem zCl {DI r} (h:sZ DI=some r):
    BA Tryz.prog 223 [.int .u8 DI] [] (Val (.bool r)):=by
 unfold sZ at h
 refine BA.intro Tryz.func223 O O O fun w R=>?_;refine .ab [0] O<|.ab [2] O ?_;cases h;exact .rv O O ⟨O,O⟩ zw
theorem zQI:BX Tryz.prog 255:=en Tryz.func255 (by kernel_rfl)
def vI [AP] (AX:(List Int)):Option Int:=
 bnd (yC (τ:=Int ⊕ Unit) (fun (s1:Int)=>bif decide (s1<(AX.length:Int)) then (bnd (BP AX s1) fun x1=>bnd (sZ x1) fun r1=>bif r1 then (some (.done (.inl s1))) else (some (.next (wrap .i64 (s1+1))))) else (some (.done (.inr ())))) 0) fun o1=>xL o1 fun o2=>some (-1)
theorem mZ [AP] {AX A1 c1 r} (h:vI AX=some r):
    BA Tryz.prog 255 [.slice A1 AX.length c1, .func (.func 223) #[] #[]] [.ro (AV AQ A1 c1 AX)] (Val (.int .i64 r)):=by
 refine BA.intro Tryz.func255 O O O fun w R=>?_;refine .ab [0,1] O<|.seq<|.ab [0,1,7,8] O<|.bd h fun o1 hl1 h=>.ES 1 (fun (o2:Unit) (e2:Unit)=>[]) (fun o2 e2=>[]) O O (fun o2=>o1= .inr o2) ?_ ?_
 ·refine .block<|.BM hl1 0 (fun (s1:Int) (e1:Unit)=>[0,1,7, .s 8 (.int .i64 s1)]) (fun s1 e1=>[]) O O () (zb O) (fun _ w=>w) ?_;rintro s1 e1 st1 hm1 hd1 h1;refine .ae O<|.seq<|.cb h1 O (fun h1=>?_) (fun h1=>?_)
  ·refine .sk<|.pr [0,1,7,8] O<|.seq<|.block<|.ab [0,1,5,7,8] O<|.a 3 O<|.bd h1 fun x1 hx1 h1=>.IB hx1 0 O fun b1 DY=>.ld DY 0 0 O<|.bd h1 fun r1 hr1 h1=>.cv [] (zCl hr1) zSQ O<|.bf [0,1,5,7,8,16] [] 1 O O<|.cb h1 O (fun h1=>?_) (fun h1=>?_)
   ·refine .EK [4] [] 1 O O ?_;cases h1;cases hd1 _ rfl
    have h:some _=some _:=h;cases h;exact .rv O O ⟨O,O⟩ zw
   refine .skip<|.BL<|.AO<|.pr [0,1,7,8] O<|.region ?_;cases h1;exact .be O<|.ag () hm1 O zw
  refine .xq O ?_;cases h1;cases hd1 _ rfl
  exact .AO<|.CZ () () O trivial (zl [] 1 O)
 rintro o2 e2 ho;subst ho;have h:=JG h;refine .ae O ?_;cases h;exact .rv O O ⟨O,O⟩ zw
theorem zQx:BX Tryz.prog 222:=en Tryz.func222 (by kernel_rfl)
def wT [AP] (AX:(List Int)):Option Bool:=
 bnd (vI AX) fun r1=>some (decide (r1≥0))
theorem nL [AP] {AX A1 c1 r} (h:wT AX=some r):
    BA Tryz.prog 222 [.slice A1 AX.length c1, .func (.func 223) #[] #[]] [.ro (AV AQ A1 c1 AX)] (Val (.bool r)):=by
 refine BA.intro Tryz.func222 O O O fun w R=>?_;refine .ab [0,1] O<|.a 2 O<|.bd h fun r1 hr1 h=>.cv [0] (mZ hr1) zQI O<|.bf [4] [] 1 O O ?_;cases h;exact .rv O O ⟨O,O⟩ zw
theorem zQj:BX Tryz.prog 141:=en Tryz.func141 (by kernel_rfl)
def pE [AP] (BF:(List Int)):Option Bool:=
 bnd (wT BF) fun r1=>some (!r1)
theorem cA [AP] {BF A1 c1 r} (h:pE BF=some r):
    BA Tryz.prog 141 [.slice A1 BF.length c1] [.ro (AV AQ A1 c1 BF)] (Val (.bool r)):=by
 refine BA.intro Tryz.func141 O O O fun w R=>?_;refine .ab [0] O<|.a 1 O<|.bd h fun r1 hr1 h=>.cv [0] (nL hr1) zQx O<|.bf [2] [] 1 O O ?_;cases h;exact .rv O O ⟨O,O⟩ zw
theorem zVh:BX Tryz.prog 61:=en Tryz.func61 (by kernel_rfl)
def rK [AP] (BF:(List Int)):Option (vR × Bool):=
 bnd (BP BF 0) fun x1=>bnd (BP BF 1) fun x2=>bnd (BP BF 2) fun x3=>bnd (BP BF 3) fun x4=>bnd ((bnd (BP BF 4) fun x5=>bif (x5 != 0) then (some true) else (bif decide ((FK .i64 (FK .i64 (FK .i64 (wrap .i64 x1) (gZ .i64 (wrap .i64 x2) 8)) (gZ .i64 (wrap .i64 x3) 16)) (gZ .i64 (wrap .i64 x4) 24))<1) then (some true) else (some (decide ((FK .i64 (FK .i64 (FK .i64 (wrap .i64 x1) (gZ .i64 (wrap .i64 x2) 8)) (gZ .i64 (wrap .i64 x3) 16)) (gZ .i64 (wrap .i64 x4) 24))>2147483648)))):Option Bool)) fun o1=>bif o1 then (some ((⟨0,none,0,false⟩:vR),false)) else (bnd (yC (τ:=vR) (fun (s1:vR)=>bnd (sub BF s1.tail (BF.length:Int)) fun l1=>bnd (pD l1) fun r1=>bif !r1.2.2 then (some (.done s1)) else (bnd (wM s1.all r1.1) fun r2=>bif decide ((((r2.getD []).length:Nat):Int)>32) then (some (.done s1)) else (some (.next (⟨s1.generation,r2,wrap .i64 (s1.tail+r1.2.1),s1.clean⟩:vR))))) (⟨FK .i64 (FK .i64 (FK .i64 (wrap .i64 x1) (gZ .i64 (wrap .i64 x2) 8)) (gZ .i64 (wrap .i64 x3) 16)) (gZ .i64 (wrap .i64 x4) 24),(some []),5,false⟩:vR)) fun o2=>bnd (sub BF o2.tail (BF.length:Int)) fun l2=>bnd (pE l2) fun r3=>some ((⟨o2.generation,o2.all,o2.tail,r3⟩:vR),true))
theorem zEv [AP] {BF A1 c1 r} (h:rK BF=some r):
    BA Tryz.prog 61 [.slice A1 BF.length c1] [.ro (AV AQ A1 c1 BF)] (fun v F=>∃ M1,v= .tuple #[.agg (Zz r.1 M1).toArray, .bool r.2]∧F= [.res (yV (yH .u8) (CY AQ) M1 r.1.all)]):=by
 refine BA.intro Tryz.func61 O O O fun w R=>?_;refine .seq<|.region<|.alloc O O fun g1=>.b [0,2] O<|.seq<|.regionF mixed (by kernel_rfl)<|.p O O<|.bd h fun x1 hx1 h=>.IB hx1 1 O fun b1 DY=>.ld DY 0 0 O<|.n 2 O<|.bd h fun x2 hx2 h=>.IB hx2 2 O fun b2 JD=>.ld JD 0 0 O<|.n 4 O<|.bd h fun x3 hx3 h=>.IB hx3 3 O fun b3 MP=>.ld MP 0 0 O<|.n 4 O<|.bd h fun x4 hx4 h=>.IB hx4 4 O fun b4 TY=>.ld TY 0 0 O<|.beq O<|.pf [0,2,4] [] 4 O O<|.seq<|.seq<|.bd h fun o1 hj1 h=>.cu 0 [0,2,4, .s 43 (.bool o1)] [] O O ?_ ?_
 ·refine .region<|.p O O<|.bd hj1 fun x5 hx5 hj1=>.IB hx5 1 O fun b5 YD=>.ld YD 0 0 O<|.n 2 O<|.gs 36 hj1 O (fun hj1=>?_) (fun hj1=>?_)
  ·cases hj1;exact .be O<|.hU O (zl [] 1 O)
  refine .n 4 O<|.gs 40 hj1 O (fun hj1=>?_) (fun hj1=>?_)
  ·cases hj1;exact .be O<|.hU O (zl [] 1 O)
  cases hj1;exact .be O<|.hU O (zl [] 1 O)
 refine .cb h O (fun h=>?_) (fun h=>?_)
 ·refine .a 1 O<|.sb 0 0 O<|.bf [2,3] [0] 1 O O<|.AY (fun _ w=>w.TW (yH .u8) (CY AQ)) ?_;cases h;exact .rt O Tryz.results61 (.cell O EO O (.tmp O .nil)) O ⟨none,O,O⟩ (zl [0] 1 O)
 refine .sk<|.pr [0,2,4] O<|.a 1 O<|.QI (K:=(yH .u8)) (E:=(CY AQ)) O fun g2=>.p O O<|.alloc O O fun g3=>.sb 0 0 O<|.b [0,2,5] O<|.seq<|.bd h fun o2 hl1 h=>.DV 2 (fun (e3:Option Nat)=>[0,2,5]) (fun e3=>[.res (yV (yH .u8) (CY AQ) e3 o2.all), .res (Box g3 138 (Zz o2 e3))]) O O ?_ ?_
 ·refine .block<|.BM hl1 2 (fun (s1:vR) (e2:Option Nat)=>[0,2,5]) (fun s1 e2=>[.res (yV (yH .u8) (CY AQ) e2 s1.all), .res (Box g3 138 (Zz s1 e2))]) O O (some g2) (zb O) (zl [1] 0 O) ?_;rintro s1 M1 st1 hm1 hd1 h1;refine .block<|.a 2 O<|.lb 2 1 O<|.bd h1 fun l1 hl1 h1=>.sub (E:=(CY AQ)) O O (zm 3 O) O O O O O O O hl1 fun A2 c2=>.bd h1 fun r1 hr1 h1=>.cr 6 [0] [] 0 (zDR hr1) zTQ O fun A3 c3=>.bf [0,2,5,6,7,8] [0] 1 O O<|.seq<|.ab [0,2,5,6,7,58] O<|.cb h1 O (fun h1=>?_) (fun h1=>?_)
  ·refine .xq O ?_;cases h1;cases hd1 _ rfl
   exact .AO<|.hE M1 O (zl [] 1 O)
  refine .sk<|.pr [0,2,5,6,7] O<|.a 1 O<|.lb 1 2 O<|.p O O<|.AY (fun _ w=>w.IJ)<|.bd h1 fun r2 hr2 h1=>.call (mJ hr2) zQS O O O (zd [1] [1] 0 O) ?_;rintro _ _ ⟨M3,rfl,rfl⟩;refine .nm 6 O<|.bf [0,2,5,7,9] [0,0] 1 O O<|.seq<|.a 1 O<|.OX (K:=(yH .u8)) (E:=(CY AQ)) O O EO O O O<|.b [0,2,5,7,9,65] O<|.cb h1 O (fun h1=>?_) (fun h1=>?_)
  ·refine .xq O ?_;cases h1;cases hd1 _ rfl
   exact .AO<|.hE M1 O (zl [0] 1 O)
  refine .sk<|.pr [0,2,5,7,9] O<|.region<|.n 2 O<|.lb 2 2 O<|.n 3 O<|.sb 1 2 O<|.p O O<|.sb 2 0 O<|.done<|.BL ?_;cases h1;exact .AO<|.ag M3 hm1 O (zl [2,0] 1 O)
 rintro M2;refine .a 2 O<|.lb 2 1 O<|.bd h fun l2 hl2 h=>.sub (E:=(CY AQ)) O O (zm 3 O) O O O O O O O hl2 fun A4 c4=>.bd h fun r3 hr3 h=>.cv [0] (cA hr3) zQj O<|.p O O<|.sb 3 2 O<|.bf [2,5] [0,1,1] 2 O O<|.seq<|.region<|.lb 0 0 O<|.sb 0 2 O<|.bf [2,3] [0] 1 O O ?_;cases h;exact .rt O Tryz.results61 (.cell O (.head _) O (.tmp O .nil)) O ⟨M2,O,O⟩ (zl [] 1 O)
theorem ZM:BX Tryz.prog 15:=en Tryz.func15 (by kernel_rfl)
def xN [AP] (AB:zA) (first:Int):Option (zA × (Option zE) × Int):=
 bnd ((bif decide (first<0) then (some true) else (bnd (sE AB) fun r1=>some (decide (first>(wrap .i64 (r1 - 2))))):Option Bool)) fun o1=>bif o1 then (some (AB,none,2)) else (bnd (yJ AB) fun r2=>bif decide (r2<1024) then (some (AB,none,3)) else (bnd (yC (τ:=(zA × (Option zE) × Int) ⊕ (zE × zA)) (fun (s1:zE × zA × Int)=>bif decide (s1.2.2<2) then (bnd (yJ s1.2.1) fun r3=>bnd (yJ s1.2.1) fun r4=>bnd (uE s1.2.1 (wrap .i64 ((wrap .i64 (first+s1.2.2))*r3)) r4) fun r5=>bif (r5.2.2 != 0) then (some (.done (.inl (r5.1,none,r5.2.2)))) else (bnd (rK r5.2.1) fun r6=>bnd ((bif r6.2 then (some (decide (r6.1.generation>s1.1.generation))) else (some false):Option Bool)) fun o4=>bif o4 then (some (.next ((⟨s1.1.d,s1.1.first,s1.2.2,r6.1.generation,r6.1.all,r6.1.tail,r6.1.clean,s1.1.ended⟩:zE),r5.1,wrap .i64 (s1.2.2+1)))) else (some (.next (s1.1,r5.1,wrap .i64 (s1.2.2+1)))))) else (some (.done (.inr (s1.1,s1.2.1))))) ((⟨true,first,(-1),0,(some []),0,false,false⟩:zE),AB,0)) fun o2=>xL o2 fun o3=>some (o3.2,(some o3.1),0)))
theorem uI [AP] {AB first A1 c1 A2 c2 AZ r} (h:xN AB first=some r):
    BA Tryz.prog 15 [.pointer (some ⟨AZ,0,none⟩), .int .i64 first] [.res (Box AZ 131 (zG AB A1 c1 A2 c2)), .res (zI AQ 5 A1 c1 AB.bytes), .res (zI zU 3 A2 c2 AB.BD)] (VE r.2.1 (fun v F=>∃ A3 c3 A4 c4,v= .tuple #[.pointer none, .int .i64 r.2.2]∧F= [.res (Box AZ 131 (zG r.1 A3 c3 A4 c4)), .res (zI AQ 5 A3 c3 r.1.bytes), .res (zI zU 3 A4 c4 r.1.BD)]) (fun q_ v F=>∃ g1 A3 c3 A4 c4 M1,v= .tuple #[.pointer (some ⟨g1,0,none⟩), .int .i64 r.2.2]∧F= [.res (Box AZ 131 (zG r.1 A3 c3 A4 c4)), .res (zI AQ 5 A3 c3 r.1.bytes), .res (zI zU 3 A4 c4 r.1.BD), .res (Box g1 135 (zR q_ AZ M1)), .res (yV (yH .u8) (CY AQ) M1 q_.all)])):=by
 refine BA.intro Tryz.func15 O O O fun w R=>?_;refine .ab [0,1] O<|.seq<|.block<|.seq<|.bd h fun o1 hj1 h=>.cu 0 [0,1, .s 12 (.bool o1)] [] O O ?_ ?_
 ·refine .region<|.n 3 O<|.gs 15 hj1 O (fun hj1=>?_) (fun hj1=>?_)
  ·cases hj1;exact .be O<|.hU O zw
  refine .n 2 O<|.BN O O<|.bd hj1 fun r1 hr1 hj1=>.cq 3 [] [] 0 (aD hr1) zVg O ?_;cases hj1;exact .be O<|.hU O zw
 refine .cb h O (fun h=>?_) (fun h=>?_)
 ·refine .ab [4,5] O ?_;cases h;exact .rv O O (wS ⟨A1,c1,A2,c2,O,O⟩) zw
 refine .a 1 O<|.bd h fun r2 hr2 h=>.cq 3 [] [] 0 (vA hr2) ja O<|.b [0,1,22] O<|.cb h O (fun h=>?_) (fun h=>?_)
 ·refine .ab [4,5] O ?_;cases h;exact .rv O O (wS ⟨A1,c1,A2,c2,O,O⟩) zw
 refine .skip<|.BL<|.AO<|.pr [0,1] O<|.a 2 O<|.QI (K:=(yH .u8)) (E:=(CY AQ)) O fun g1=>.p O O<|.box O O fun g2=>.b [0,1,6] O<|.seq<|.ae O<|.bd h fun o2 hl1 h=>.ES 5 (fun (o3:zE × zA) (e3:Option Nat × Option Addr × Nat × Option Addr × Nat)=>[6]) (fun o3 e3=>[.res (zI zU 3 e3.2.2.2.1 e3.2.2.2.2 o3.2.BD), .res (zI AQ 5 e3.2.1 e3.2.2.1 o3.2.bytes), .res (yV (yH .u8) (CY AQ) e3.1 o3.1.all), .res (Box g2 135 (zR o3.1 AZ e3.1)), .res (Box AZ 131 (zG o3.2 e3.2.1 e3.2.2.1 e3.2.2.2.1 e3.2.2.2.2))]) O O (fun o3=>o2= .inr o3) ?_ ?_
 ·refine .block<|.BM hl1 5 (fun (s1:zE × zA × Int) (e2:Option Nat × Option Addr × Nat × Option Addr × Nat)=>[0,1,6, .s 31 (.int .i64 s1.2.2)]) (fun s1 e2=>[.res (zI zU 3 e2.2.2.2.1 e2.2.2.2.2 s1.2.1.BD), .res (zI AQ 5 e2.2.1 e2.2.2.1 s1.2.1.bytes), .res (yV (yH .u8) (CY AQ) e2.1 s1.1.all), .res (Box g2 135 (zR s1.1 AZ e2.1)), .res (Box AZ 131 (zG s1.2.1 e2.2.1 e2.2.2.1 e2.2.2.2.1 e2.2.2.2.2))]) O O ((some g1),A1,c1,A2,c2) (zb O) (zl [4,3,1] 0 O) ?_;rintro s1 ⟨M1,A3,c3,A4,c4⟩ st1 hm1 hd1 h1;refine .ae O<|.seq<|.cb h1 O (fun h1=>?_) (fun h1=>?_)
  ·refine .sk<|.pr [0,1,6,31] O<|.seq<|.block<|.ab [0,1,6,7,31] O<|.a 5 O<|.bd h1 fun r3 hr3 h1=>.cq 5 [] [4,1] 0 (vA hr3) ja O<|.n 2 O<|.bd h1 fun r4 hr4 h1=>.cq 5 [] [] 0 (vA hr4) ja O<|.bd h1 fun r5 JH h1=>.call (gI JH) zSe O O O (fun _ w=>w) ?_;rintro _ _ ⟨A7,c7,A8,c8,A9,c9,rfl,rfl⟩;refine .nm 6 O<|.b [0,1,6,7,8,9,31] O<|.seq<|.ab [0,1,6,7,8,9,31,48] O<|.cb h1 O (fun h1=>?_) (fun h1=>?_)
   ·refine .EK [4,5] [0,0,0] 3 O O ?_;cases h1;cases hd1 _ rfl
    have h:some _=some _:=h;cases h;exact .rv O O (wS ⟨A7,c7,A8,c8,O,O⟩) zw
   refine .sk<|.pr [0,1,6,7,8,31] O<|.a 1 O<|.AY (fun _ w=>(w.sl [3] 0 O).BU)<|.bd h1 fun r6 KU h1=>.call (zEv KU) zVh O O O (zd [0] [] 0 O) ?_;rintro _ _ ⟨M3,rfl,rfl⟩;refine .nm 7 O<|.n 3 O<|.alloc O O fun g3=>.sb 0 0 O<|.bf [0,1,6,7,10,11,31] [0,0] 1 O O<|.seq<|.bd h1 fun o4 hj2 h1=>.cu 0 [0,1,6,7,10,31, .s 64 (.bool o4)] [] O O ?_ ?_
   ·refine .regionF mixed (by kernel_rfl)<|.n 2 O<|.gs 56 hj2 O (fun hj2=>?_) (fun hj2=>?_)
    ·refine .n 1 O<|.BN O O<|.lb 0 0 O<|.n 3 O<|.BN O O<|.lb 3 6 O ?_;cases hj2;exact .beq O<|.hU O zw
    cases hj2;exact .beq O<|.hU O zw
   refine .cb h1 O (fun h1=>?_) (fun h1=>?_)
   ·refine .BI (iN [0,4,8,12,16,20,24,28,32,36,40,44,48,52,56,60,67,68,72,79,80,84,91,92,96,103,104,108,115] .nil) _ mixed (by kernel_rfl) (zl [0,0,0,0,0,0] 1 O)<|.yn 7 O<|.yl 0 0 O<|.yn 1 O<|.yl 1 0 O<|.yn 1 O<|.yl 2 0 O<|.yn 1 O<|.yl 3 0 O<|.yn 2 O<|.BV<|.sb 2 6 O<|.xk (zl [] 1 O)<|.yn 2 O<|.BV<|.sb 3 0 O<|.xk (zl [] 1 O)<|.yn 2 O<|.BV<|.sb 4 0 O<|.xk (zl [] 1 O)<|.yn 2 O<|.BV<|.sb 5 0 O<|.xk (zl [] 1 O)<|.yn 2 O<|.BV<|.sb 6 0 O<|.xk (zl [] 1 O)<|.CQ<|.BL<|.AO<|.pf [0,1,6,31] [0,1,1,1,1] 2 O O<|.region ?_;cases h1;exact .be O<|.ag (M3,A7,c7,A8,c8) hm1 O (zl [4,3,1] 0 O)
   refine .skip<|.BL<|.AO<|.pf [0,1,6,31] [] 2 O O<|.region ?_;cases h1;exact .be O<|.ag (M1,A7,c7,A8,c8) hm1 O (zl [2,1,1,1] 0 O)
  refine .xq O ?_;cases h1;cases hd1 _ rfl
  exact .AO<|.CZ (s1.1,s1.2.1) (M1,A3,c3,A4,c4) O (zb O) zw
 rintro o3 ⟨M2,A5,c5,A6,c6⟩ ho;subst ho;have h:=JG h;refine .ab [4,5] O ?_;cases h;exact .rv O O (mI ⟨g2,A5,c5,A6,c6,M2,O,O⟩) (zl [4,1,0,1] 0 O)
theorem Ri:BX Tryz.prog 166:=en Tryz.func166 (by kernel_rfl)
def sX [AP] (AX:ByteArray):Option Bool:=
 bnd ((bif decide ((AX.size:Int)<1) then (some true) else (some (decide ((AX.size:Int)>16))):Option Bool)) fun o1=>bif o1 then (some false) else (bnd (yC (τ:=Bool ⊕ Unit) (fun (s1:Int)=>bif decide (s1<(AX.size:Int)) then (bnd ((bnd (FM AX s1) fun y1=>bif decide (y1≥97) then (some (decide (y1≤122))) else (some false):Option Bool)) fun o4=>bnd ((bnd (FM AX s1) fun y2=>bif decide (y2≥48) then (bif decide (y2≤57) then (some true) else (some (y2==45))) else (some (y2==45)):Option Bool)) fun o5=>bnd ((bif !o4 then (bif (s1==0) then (some true) else (some (!o5))) else (some false):Option Bool)) fun o6=>bif o6 then (some (.done (.inl false))) else (some (.next (wrap .i64 (s1+1))))) else (some (.done (.inr ())))) 0) fun o2=>xL o2 fun o3=>some true)
theorem kN [AP] {AX r} (h:sX AX=some r):
    BA Tryz.prog 166 [.string AX] [] (Val (.bool r)):=by
 refine BA.intro Tryz.func166 O O O fun w R=>?_;refine .ab [0] O<|.seq<|.seq<|.bd h fun o1 hj1 h=>.cu 0 [0, .s 13 (.bool o1)] [] O O ?_ ?_
 ·refine .region<|.n 4 O<|.gs 9 hj1 O (fun hj1=>?_) (fun hj1=>?_)
  ·cases hj1;exact .be O<|.hU O zw
  cases hj1;exact .be O<|.hU O zw
 refine .cb h O (fun h=>?_) (fun h=>?_)
 ·refine .ab [2] O ?_;cases h;exact .rv O O ⟨O,O⟩ zw
 refine .sk<|.pr [0] O<|.seq<|.ae O<|.bd h fun o2 hl1 h=>.ES 0 (fun (o3:Unit) (e3:Unit)=>[]) (fun o3 e3=>[]) O O (fun o3=>o2= .inr o3) ?_ ?_
 ·refine .block<|.BM hl1 0 (fun (s1:Int) (e2:Unit)=>[0, .s 3 (.int .i64 s1)]) (fun s1 e2=>[]) O O () (zb O) (fun _ w=>w) ?_;rintro s1 e2 st1 hm1 hd1 h1;refine .seq<|.ab [0,3,17] O<|.cb h1 O (fun h1=>?_) (fun h1=>?_)
  ·refine .sk<|.pr [0,3] O<|.seq<|.block<|.seq<|.bd h1 fun o4 hj2 h1=>.cu 0 [0,3, .s 4 (.bool o4)] [] O O ?_ ?_
   ·refine .region<|.n 2 O<|.bd hj2 fun y1 hy1 hj2=>.FM O O O O O hy1<|.n 2 O<|.gs 24 hj2 O (fun hj2=>?_) (fun hj2=>?_)
    ·refine .n 2 O<|.BN O O<|.FM O O O O O hy1 ?_;cases hj2;exact .be O<|.hU O zw
    cases hj2;exact .be O<|.hU O zw
   refine .seq<|.bd h1 fun o5 hj3 h1=>.cu 0 [0,3,4, .s 5 (.bool o5)] [] O O ?_ ?_
   ·refine .region<|.n 2 O<|.bd hj3 fun y2 hy2 hj3=>.FM O O O O O hy2<|.n 2 O<|.gs 34 hj3 O (fun hj3=>?_) (fun hj3=>?_)
    ·refine .n 2 O<|.BN O O<|.FM O O O O O hy2<|.n 3 O<|.gs 40 hj3 O (fun hj3=>?_) (fun hj3=>?_)
     ·cases hj3;exact .be O<|.hU O zw
     refine .n 2 O<|.BN O O<|.FM O O O O O hy2 ?_;cases hj3;exact .be O<|.hU O zw
    refine .n 8 O<|.BN O O<|.FM O O O O O hy2 ?_;cases hj3;exact .be O<|.hU O zw
   refine .seq<|.bd h1 fun o6 FZ h1=>.cu 0 [0,3, .s 55 (.bool o6)] [] O O ?_ ?_
   ·refine .region<|.n 3 O<|.gs 48 FZ O (fun FZ=>?_) (fun FZ=>?_)
    ·refine .n 3 O<|.gs 51 FZ O (fun FZ=>?_) (fun FZ=>?_)
     ·cases FZ;exact .be O<|.hU O zw
     cases FZ;exact .be O<|.hU O zw
    cases FZ;exact .be O<|.hU O zw
   refine .cb h1 O (fun h1=>?_) (fun h1=>?_)
   ·refine .ab [2] O ?_;cases h1;cases hd1 _ rfl
    have h:some _=some _:=h;cases h;exact .rv O O ⟨O,O⟩ zw
   refine .skip<|.BL<|.AO<|.pr [0,3] O<|.region ?_;cases h1;exact .be O<|.ag () hm1 O zw
  refine .xq O ?_;cases h1;cases hd1 _ rfl
  exact .AO<|.CZ () () O trivial zw
 rintro o3 e3 ho;subst ho;have h:=JG h;refine .ae O ?_;cases h;exact .rv O O ⟨O,O⟩ zw
theorem y7:BX Tryz.prog 232:=en Tryz.func232 (by kernel_rfl)
def tQ (EM:zQ):Option (WS Int):=
 some (⟨EM.BZ,EM.CB,EM.CJ⟩:(WS Int))
theorem kC {EM r} (h:tQ EM=some r):
    BA Tryz.prog 232 [.agg #[.int .i64 EM.BZ, .int .i64 EM.CB, .int .i64 EM.CJ]] [] (Val (.agg #[.int .i64 r.e0, .int .i64 r.e1, .int .i64 r.e2])):=by
 unfold tQ at h
 refine BA.intro Tryz.func232 O O O fun w R=>?_;refine .seq<|.region<|.box O O fun g1=>.alloc O O fun g2=>.b [1,2] O<|.a 1 O<|.lb 0 1 O<|.p O O<|.lb 1 1 O<|.p O O<|.lb 2 1 O<|.p O O<|.sb 0 0 O<|.bf [2] [0] 1 O O ?_;cases h;exact .rt O Tryz.results232 (.cell O (.head _) O .nil) O ⟨O,O⟩ (zl [] 1 O)
theorem Rj:BX Tryz.prog 167:=en Tryz.func167 (by kernel_rfl)
def tS (EM:zQ):Option Bool:=
 bnd (tQ EM) fun r1=>bnd ((bif decide (r1.e0<0) then (some true) else (some (decide (r1.e0>999))):Option Bool)) fun o1=>bif o1 then (some false) else (bnd ((bif decide (r1.e1<0) then (some true) else (some (decide (r1.e1>999))):Option Bool)) fun o2=>bif o2 then (some false) else (bnd ((bif decide (r1.e2<0) then (some true) else (some (decide (r1.e2>999))):Option Bool)) fun o3=>bif o3 then (some false) else (some true)))
theorem mP {EM r} (h:tS EM=some r):
    BA Tryz.prog 167 [.agg #[.int .i64 EM.BZ, .int .i64 EM.CB, .int .i64 EM.CJ]] [] (Val (.bool r)):=by
 refine BA.intro Tryz.func167 O O O fun w R=>?_;refine .seq<|.region<|.box O O fun g1=>.b [1] O<|.seq<|.seq<|.region<|.lb 0 0 O<|.bd h fun r1 hr1 h=>.cv [] (kC hr1) y7 O<|.bf [6,7] [] 1 O O<|.block<|.rounds 9<|.round<|.ae O<|.seq<|.EP O<|.sk<|.pr [6,7] O<|.seq<|.block<|.ab [4,6,7] O<|.seq<|.bd h fun o1 hj1 h=>.cu 0 [6,7, .s 15 (.bool o1)] [] O O ?_ ?_
 ·refine .region<|.n 3 O<|.gs 12 hj1 O (fun hj1=>?_) (fun hj1=>?_)
  ·cases hj1;exact .be O<|.hU O zw
  cases hj1;exact .be O<|.hU O zw
 refine .cb h O (fun h=>?_) (fun h=>?_)
 ·refine .ab [2] O ?_;cases h;exact .rv O O ⟨O,O⟩ zw
 refine .skip<|.BL<|.AO<|.pr [6,7] O<|.region<|.be O<|.round<|.pr [6,7] O<|.ae O<|.seq<|.EP O<|.sk<|.pr [6,7] O<|.seq<|.block<|.ab [4,6,7] O<|.seq<|.bd h fun o2 hj2 h=>.cu 0 [6,7, .s 15 (.bool o2)] [] O O ?_ ?_
 ·refine .region<|.n 3 O<|.gs 12 hj2 O (fun hj2=>?_) (fun hj2=>?_)
  ·cases hj2;exact .be O<|.hU O zw
  cases hj2;exact .be O<|.hU O zw
 refine .cb h O (fun h=>?_) (fun h=>?_)
 ·refine .ab [2] O ?_;cases h;exact .rv O O ⟨O,O⟩ zw
 refine .skip<|.BL<|.AO<|.pr [6,7] O<|.region<|.be O<|.round<|.pr [6,7] O<|.ae O<|.seq<|.EP O<|.sk<|.pr [6,7] O<|.seq<|.block<|.ab [4,6,7] O<|.seq<|.bd h fun o3 hj3 h=>.cu 0 [6,7, .s 15 (.bool o3)] [] O O ?_ ?_
 ·refine .region<|.n 3 O<|.gs 12 hj3 O (fun hj3=>?_) (fun hj3=>?_)
  ·cases hj3;exact .be O<|.hU O zw
  cases hj3;exact .be O<|.hU O zw
 refine .cb h O (fun h=>?_) (fun h=>?_)
 ·refine .ab [2] O ?_;cases h;exact .rv O O ⟨O,O⟩ zw
 refine .skip<|.BL<|.AO<|.pr [6,7] O<|.region<|.be O<|.round<|.pr [6,7] O<|.ae O<|.seq<|.FU O<|.xq O<|.AO<|.pr [] O<|.ae O ?_;cases h;exact .rv O O ⟨O,O⟩ zw
theorem Ea:BX Tryz.prog 88:=en Tryz.func88 (by kernel_rfl)
def tE [AP] (CP:zN):Option Bool:=
 bnd ((bnd (sX CP.Name) fun r1=>bif r1 then (bnd (tS CP.Version) fun r2=>bif r2 then (bif decide ((CP.Data.length:Int)≥1) then (some (decide ((CP.Data.length:Int)≤512))) else (some false)) else (some false)) else (some false):Option Bool)) fun o1=>some o1
theorem oY [AP] {CP A1 c1 r} (h:tE CP=some r):
    BA Tryz.prog 88 [.agg (yO CP A1 c1).toArray] [.ro (AV AQ A1 c1 CP.Data)] (Val (.bool r)):=by
 refine BA.intro Tryz.func88 O O O fun w R=>?_;refine .seq<|.region<|.box O O fun g1=>.b [1] O<|.seq<|.bd h fun o1 hj1 h=>.cu 2 [.s 2 (.bool o1)] [] O O ?_ ?_
 ·refine .region<|.p O O<|.lb 0 0 O<|.bd hj1 fun r1 hr1 hj1=>.cv [] (kN hr1) Ri O<|.p O O<|.gs 6 hj1 O (fun hj1=>?_) (fun hj1=>?_)
  ·refine .n 1 O<|.BN O O<|.lb 1 0 O<|.BN O O<|.bd hj1 fun r2 hr2 hj1=>.cv [] (mP hr2) Rj O<|.n 2 O<|.gs 11 hj1 O (fun hj1=>?_) (fun hj1=>?_)
   ·refine .n 1 O<|.BN O O<|.lb 4 0 O<|.n 4 O<|.gs 17 hj1 O (fun hj1=>?_) (fun hj1=>?_)
    ·refine .n 1 O<|.BN O O<|.lb 4 0 O ?_;cases hj1;exact .be O<|.hU O (zl [] 2 O)
    cases hj1;exact .be O<|.hU O (zl [] 2 O)
   cases hj1;exact .be O<|.hU O (zl [] 2 O)
  cases hj1;exact .be O<|.hU O (zl [] 2 O)
 cases h;exact .rv O O ⟨O,O⟩ zw
theorem xh:BX Tryz.prog 130:=en Tryz.func130 (by kernel_rfl)
def pR (CP:zN):Option zN:=
 bnd (zV CP.Data) fun r1=>some (⟨CP.Name,CP.Version,r1⟩:zN)
theorem gS {CP A1 c1 r} (h:pR CP=some r):
    BA Tryz.prog 130 [.agg (yO CP A1 c1).toArray] [.ro (AV AQ A1 c1 CP.Data)] (fun v F=>∃ A2 c2,v= .agg (yO r A2 c2).toArray∧F= [.ro (AV AQ A2 c2 r.Data)]):=by
 refine BA.intro Tryz.func130 O O O fun w R=>?_;refine .seq<|.region<|.box O O fun g1=>.alloc O O fun g2=>.b [1,2] O<|.a 1 O<|.lb 4 1 O<|.bd h fun r1 hr1 h=>.cr 4 [2] [] 0 (yN hr1) aJ O fun A2 c2=>.p O O<|.sb 4 2 O<|.bf [1,2] [0,0,0] 1 O O<|.seq<|.region<|.lb 0 0 O<|.sb 0 2 O<|.bf [2] [0] 1 O O<|.AY (fun _ w=>(w.sl [1] 0 O).BU) ?_;cases h;exact .rt O Tryz.results130 (.cell O EO O .nil) O ⟨A2,c2,O,O⟩ (zk 1 2 [0] [] 0 O)
theorem zSR:BX Tryz.prog 133:=en Tryz.func133 (by kernel_rfl)
def dI (BF:(List Int)) (LX:ByteArray):Option (List Int):=
 bnd (app 1 BF [wrap .u8 (LX.size:Int)]) fun l1=>bnd (app 1 l1 (bytesOf LX)) fun l2=>some l2
theorem zGU {BF LX A1 c1 r} (h:dI BF LX=some r):
    BA Tryz.prog 133 [.slice A1 BF.length c1, .string LX] [.res (zI AQ 5 A1 c1 BF)] (fun v F=>∃ A2 c2,v= .slice A2 r.length c2∧F= [.res (zI AQ 5 A2 c2 r)]):=by
 refine BA.intro Tryz.func133 O O O fun w R=>?_;refine .ab [0,1] O<|.a 4 O<|.bS O fun g1=>.bd h fun l1 hl1 h=>.app (E:=AQ) hl1 O O O (.s .z) O O O O O O O O (iV (.head _) O O) O O fun A2 c2=>.p O O<|.bd h fun l2 hl2 h=>.app (E:=AQ) hl2 O O O .z O O O O O O O (by simp [bytesOf,ByteArray.toList_eq]) (zVk LX) O O fun A3 c3=>.bf [4] [0] 1 O O ?_;cases h;exact .rv O O ⟨A3,c3,O,O⟩ zw
theorem Rk:BX Tryz.prog 168:=en Tryz.func168 (by kernel_rfl)
def pA (BF:(List Int)) (EN:Int):Option (List Int):=
 bnd (app 1 BF [wrap .u8 (rM .i64 EN 8),wrap .u8 EN]) fun l1=>some l1
theorem lU {BF EN A1 c1 r} (h:pA BF EN=some r):
    BA Tryz.prog 168 [.slice A1 BF.length c1, .int .i64 EN] [.res (zI AQ 5 A1 c1 BF)] (fun v F=>∃ A2 c2,v= .slice A2 r.length c2∧F= [.res (zI AQ 5 A2 c2 r)]):=by
 refine BA.intro Tryz.func168 O O O fun w R=>?_;refine .ab [0,1] O<|.a 6 O<|.bS O fun g1=>.bd h fun l1 hl1 h=>.app (E:=AQ) hl1 O O O (.s .z) O O O O O O O O (iV (.head _) O O) O O fun A2 c2=>.bf [4] [0] 1 O O ?_;cases h;exact .rv O O ⟨A2,c2,O,O⟩ zw
theorem zUn:BX Tryz.prog 132:=en Tryz.func132 (by kernel_rfl)
def nN (BF:(List Int)) (IC:zQ):Option (List Int):=
 bnd (pA BF IC.BZ) fun r1=>bnd (pA r1 IC.CB) fun r2=>bnd (pA r2 IC.CJ) fun r3=>some r3
theorem zDz {BF IC A1 c1 r} (h:nN BF IC=some r):
    BA Tryz.prog 132 [.slice A1 BF.length c1, .agg #[.int .i64 IC.BZ, .int .i64 IC.CB, .int .i64 IC.CJ]] [.res (zI AQ 5 A1 c1 BF)] (fun v F=>∃ A2 c2,v= .slice A2 r.length c2∧F= [.res (zI AQ 5 A2 c2 r)]):=by
 unfold nN at h
 refine BA.intro Tryz.func132 O O O fun w R=>?_;refine .seq<|.region<|.box O O fun g1=>.b [0,3] O<|.seq<|.BI (iN [0,4,9,16,20,28,32,15,27,39,40] .nil) _ mixed (by kernel_rfl) (zl [0] 1 O)<|.yn 2 O<|.yx 0 0 O<|.yn 1 O<|.yl 1 0 O<|.yn 1 O<|.yl 2 0 O<|.BV<|.bd h fun r1 hr1 h=>.cr 2 [] [1] 0 (lU hr1) Rk O fun A2 c2=>.xk (zl [] 1 O)<|.BV<|.bd h fun r2 hr2 h=>.cr 2 [] [] 0 (lU hr2) Rk O fun A3 c3=>.xk (zl [] 1 O)<|.BV<|.bd h fun r3 hr3 h=>.cr 2 [] [] 0 (lU hr3) Rk O fun A4 c4=>.xk (zl [] 1 O)<|.yn 1 O<|.CQ<|.AO<|.pf [4] [0] 1 O O ?_;cases h;exact .rv O O ⟨A4,c4,O,O⟩ zw
theorem zSq:BX Tryz.prog 89:=en Tryz.func89 (by kernel_rfl)
def pB (CP:zN):Option (List Int):=
 bnd (dI ([]) CP.Name) fun r1=>bnd (nN r1 CP.Version) fun r2=>bnd (pA r2 (CP.Data.length:Int)) fun r3=>bnd (app 1 r3 CP.Data) fun l1=>some l1
theorem zAz {CP A1 c1 r} (h:pB CP=some r):
    BA Tryz.prog 89 [.agg (yO CP A1 c1).toArray] [.ro (AV AQ A1 c1 CP.Data)] (fun v F=>∃ A2 c2,v= .slice A2 r.length c2∧F= [.res (zI AQ 5 A2 c2 r)]):=by
 unfold pB at h
 refine BA.intro Tryz.func89 O O O fun w R=>?_;refine .seq<|.region<|.box O O fun g1=>.b [1] O<|.seq<|.BI (iN [0,5,12,16,24,28,32,40,44,11,23,39,51,52] .nil) _ mixed (by kernel_rfl) zw<|.yn 1 O<|.yx 0 0 O<|.yn 1 O<|.yl 1 0 O<|.yn 1 O<|.yl 4 0 O<|.yn 2 O<|.yl 4 0 O<|.BV<|.AY (fun _ w=>w.HY AQ 5)<|.bd h fun r1 hr1 h=>.cr 3 [] [] 0 (zGU hr1) zSR O fun A2 c2=>.xk (zl [] 1 O)<|.BV<|.bd h fun r2 hr2 h=>.cr 3 [] [] 0 (zDz hr2) zUn O fun A3 c3=>.xk (zl [] 1 O)<|.BV<|.bd h fun r3 hr3 h=>.cr 3 [] [] 0 (lU hr3) Rk O fun A4 c4=>.xk (zl [] 1 O)<|.BV<|.bd h fun l1 hl1 h=>.app (E:=AQ) hl1 O O O .z O O O O O O O O (gU MQ) O O fun A5 c5=>.xk (zl [] 1 O)<|.yn 1 O<|.CQ<|.AO<|.pf [2] [0] 2 O O ?_;cases h;exact .rv O O ⟨A5,c5,O,O⟩ zw
theorem Rl:BX Tryz.prog 71:=en Tryz.func71 (by kernel_rfl)
def uT [AP] (BF:(List Int)):Option Int:=
 bnd (yC (τ:=Int) (fun (s1:Int × Int)=>bif decide (s1.2<(BF.length:Int)) then (bnd (BP BF s1.2) fun x1=>bnd (yC (τ:=Int) (fun (s2:Int × Int)=>bif decide (s2.2<8) then (some (.next (eJ .u32 (rM .u32 s2.1 1) (wrap .u32 ((sN .u32 s2.1 1)*3988292384)),wrap .i64 (s2.2+1)))) else (some (.done s2.1))) (eJ .u32 s1.1 (wrap .u32 x1),0)) fun o2=>some (.next (o2,wrap .i64 (s1.2+1)))) else (some (.done s1.1))) (4294967295,0)) fun o1=>some (eJ .u32 (if IntKind.signed .u32 then -1 else IntKind.max .u32) o1)
theorem nG [AP] {BF A1 c1 r} (h:uT BF=some r):
    BA Tryz.prog 71 [.slice A1 BF.length c1] [.ro (AV AQ A1 c1 BF)] (Val (.int .u32 r)):=by
 refine BA.intro Tryz.func71 O O O fun w R=>?_;refine .ab [0] O<|.ae O<|.seq<|.ab [3,7,8,9] O<|.bd h fun o1 hl1 h=>.cu 1 [.s 3 (.int .u32 o1)] [] O O ?_ ?_
 ·refine .block<|.BM hl1 0 (fun (s1:Int × Int) (e1:Unit)=>[.s 3 (.int .u32 s1.1),7,8, .s 9 (.int .i64 s1.2)]) (fun s1 e1=>[]) O O () (zb O) (fun _ w=>w) ?_;rintro s1 e1 st1 hm1 hd1 h1;refine .ae O<|.seq<|.cb h1 O (fun h1=>?_) (fun h1=>?_)
  ·refine .sk<|.pr [3,7,8,9] O<|.seq<|.block<|.seq<|.region<|.bd h1 fun x1 hx1 h1=>.IB hx1 0 O fun b1 DY=>.ld DY 0 0 O<|.bf [3,5,7,8,9] [] 1 O O<|.ab [3,7,8,9] O<|.ae O<|.bd h1 fun o2 hl2 h1=>.IV<|.cu 0 [.s 3 (.int .u32 o2),7,8,9] [] O O ?_ ?_
   ·refine .block<|.BM hl2 0 (fun (s2:Int × Int) (e3:Unit)=>[.s 3 (.int .u32 s2.1),7,8,9, .s 17 (.int .i64 s2.2)]) (fun s2 e3=>[]) O O () (zb O) (fun _ w=>w) ?_;rintro s2 e3 st2 hm2 hd2 h2;refine .ae O<|.seq<|.cb h2 O (fun h2=>?_) (fun h2=>?_)
    ·refine .sk<|.pr [3,7,8,9,17] O<|.seq<|.block<|.ab [3,6,7,8,9,17] O<|.region<|.n 6 O<|.done<|.BL<|.AO<|.pr [3,7,8,9,17] O<|.region ?_;cases h2;exact .be O<|.ag () hm2 O zw
    refine .xq O ?_;cases h2;cases hd2 _ rfl
    exact .AO<|.hU O zw
   refine .BL<|.AO<|.region ?_;cases h1;exact .be O<|.ag () hm1 O zw
  refine .xq O ?_;cases h1;cases hd1 _ rfl
  exact .AO<|.hU O (zl [] 1 O)
 refine .ab [2] O ?_;cases h;exact .rv O O ⟨O,O⟩ zw
theorem Rn:BX Tryz.prog 29:=en Tryz.func29 (by kernel_rfl)
def pP [AP] (CP:zN):Option Int:=
 bnd (tE CP) fun r1=>bif !r1 then (some 0) else (bnd (pB CP) fun r2=>bnd (uT r2) fun r3=>some r3)
theorem gT [AP] {CP A1 c1 r} (h:pP CP=some r):
    BA Tryz.prog 29 [.agg (yO CP A1 c1).toArray] [.ro (AV AQ A1 c1 CP.Data)] (Val (.int .u32 r)):=by
 refine BA.intro Tryz.func29 O O O fun w R=>?_;refine .seq<|.region<|.box O O fun g1=>.b [1] O<|.seq<|.seq<|.region<|.lb 0 0 O<|.bd h fun r1 hr1 h=>.cv [1] (oY hr1) Ea O<|.b [1,5] O<|.cb h O (fun h=>?_) (fun h=>?_)
 ·refine .EK [2] [] 2 O O ?_;cases h;exact .rv O O ⟨O,O⟩ zw
 refine .sk<|.pr [1] O<|.seq<|.region<|.lb 0 0 O<|.bd h fun r2 hr2 h=>.cr 3 [1] [] 0 (zAz hr2) zSq O fun A2 c2=>.AY (fun _ w=>w.BU)<|.bd h fun r3 hr3 h=>.cv [0] (nG hr3) Rl O<|.bf [2] [] 3 O O ?_;cases h;exact .rv O O ⟨O,O⟩ zw
theorem zSn:BX Tryz.prog 53:=en Tryz.func53 (by kernel_rfl)
def y8 [AP] (CP:zN):Option (zB × Int):=
 bnd (tE CP) fun r1=>bif !r1 then (none) else (bnd (pR CP) fun r2=>bnd (pP CP) fun r3=>some ((⟨CP.Name,(⟨(⟨r2,r3⟩:yA),(⟨(⟨⟨#[]⟩,(⟨0,0,0⟩:zQ), []⟩:zN),0⟩:yA)⟩:(tH yA)),0,0,false⟩:zB),0))
theorem zGM [AP] {CP A1 c1 r} (h:y8 CP=some r):
    BA Tryz.prog 53 [.agg (yO CP A1 c1).toArray] [.ro (AV AQ A1 c1 CP.Data)] (fun v F=>∃ A2 c2 A3 c3,v= .tuple #[.agg (zF r.1 A2 c2 A3 c3).toArray, .int .i64 r.2]∧F= [.ro (AV AQ A2 c2 r.1.Slots.e0.AU.Data), .ro (AV AQ A3 c3 r.1.Slots.e1.AU.Data)]):=by
 refine BA.intro Tryz.func53 O O O fun w R=>?_;refine .seq<|.region<|.box O O fun g1=>.alloc O O fun g2=>.b [1,2] O<|.seq<|.seq<|.region<|.lb 0 1 O<|.bd h fun r1 hr1 h=>.cv [2] (oY hr1) Ea O<|.b [1,2,7] O<|.cb h O (fun h=>?_) (fun h=>?_)
 ·cases h
 refine .sk<|.pr [1,2] O<|.a 1 O<|.lb 0 1 O<|.p O O<|.alloc O O fun g3=>.sb 0 0 O<|.b [1,2,4] O<|.seq<|.BI (iN [1,8,20,7,14,16,24,31] .nil) _ mixed (by kernel_rfl) (zl [] 1 O)<|.yx 0 2 O<|.yl 0 1 O<|.yn 1 O<|.BV<|.bd h fun r2 hr2 h=>.cr 5 [3] [] 0 (gS hr2) xh O fun A2 c2=>.xk (zl [] 2 O)<|.bd h fun r3 hr3 h=>.YZ (fun _ h=>h) (gT hr3) Rn O O O O (za [2] O)<|.yn 2 O<|.BV<|.sb 1 1 O<|.xk (zl [] 2 O)<|.CQ<|.AO<|.pf [2,4] [0,0,0] 2 O O<|.seq<|.region<|.lb 0 0 O<|.sb 0 2 O<|.bf [2,3] [0] 1 O O<|.AY (fun _ w=>w.CU (CY AQ)) ?_;cases h;exact .rt O Tryz.results53 (.cell O EO O (.tmp O .nil)) O ⟨A2,c2,none,0,O,O⟩ (zk 2 3 [2,0] [] 0 O)
theorem zUA:BX Tryz.prog 90:=en Tryz.func90 (by kernel_rfl)
def gN [AP] (AX:yA):Option Bool:=
 bnd ((bnd (tE AX.AU) fun r1=>bif r1 then (bnd (pP AX.AU) fun r2=>some (AX.Sum==r2)) else (some false):Option Bool)) fun o1=>some o1
theorem zJo [AP] {AX A1 c1 r} (h:gN AX=some r):
    BA Tryz.prog 90 [.agg (tN AX A1 c1).toArray] [.ro (AV AQ A1 c1 AX.AU.Data)] (Val (.bool r)):=by
 refine BA.intro Tryz.func90 O O O fun w R=>?_;refine .seq<|.region<|.box O O fun g1=>.b [1] O<|.seq<|.bd h fun o1 hj1 h=>.cu 2 [.s 2 (.bool o1)] [] O O ?_ ?_
 ·refine .regionF mixed (by kernel_rfl)<|.p O O<|.lb 0 0 O<|.bd hj1 fun r1 hr1 hj1=>.cv [1] (oY hr1) Ea O<|.p O O<|.gs 6 hj1 O (fun hj1=>?_) (fun hj1=>?_)
  ·refine .n 1 O<|.BN O O<|.lb 5 0 O<|.n 1 O<|.BN O O<|.lb 0 0 O<|.BN O O<|.bd hj1 fun r2 hr2 hj1=>.cv [1] (gT hr2) Rn O ?_;cases hj1;exact .beq O<|.hU O (zl [] 2 O)
  cases hj1;exact .beq O<|.hU O (zl [] 2 O)
 cases h;exact .rv O O ⟨O,O⟩ zw
theorem Eb:BX Tryz.prog 86:=en Tryz.func86 (by kernel_rfl)
def nE [AP] (AB:zB) (LX:yA):Option Bool:=
 bnd ((bnd (gN LX) fun r1=>bif r1 then (some (LX.AU.Name.toList==AB.Name.toList)) else (some false):Option Bool)) fun o1=>some o1
theorem fM [AP] {AB LX A1 c1 A2 c2 A3 c3 r} (h:nE AB LX=some r):
    BA Tryz.prog 86 [.agg (zF AB A1 c1 A2 c2).toArray, .agg (tN LX A3 c3).toArray] [.ro (AV AQ A1 c1 AB.Slots.e0.AU.Data), .ro (AV AQ A2 c2 AB.Slots.e1.AU.Data), .ro (AV AQ A3 c3 LX.AU.Data)] (Val (.bool r)):=by
 refine BA.intro Tryz.func86 O O O fun w R=>?_;refine .seq<|.region<|.box O O fun g1=>.box O O fun g2=>.b [2,3] O<|.seq<|.bd h fun o1 hj1 h=>.cu 5 [.s 4 (.bool o1)] [] O O ?_ ?_
 ·refine .region<|.lb 0 0 O<|.bd hj1 fun r1 hr1 hj1=>.cv [4] (zJo hr1) zUA O<|.p O O<|.gs 7 hj1 O (fun hj1=>?_) (fun hj1=>?_)
  ·refine .n 2 O<|.BN O O<|.lb 0 0 O<|.n 1 O<|.BN O O<|.lb 0 1 O ?_;cases hj1;exact .be O<|.hU O (zl [] 5 O)
  cases hj1;exact .be O<|.hU O (zl [] 5 O)
 cases h;exact .rv O O ⟨O,O⟩ zw
theorem xu:BX Tryz.prog 87:=en Tryz.func87 (by kernel_rfl)
def qE (AB:zB):Option Int:=
 bnd (BP [AB.Slots.e0,AB.Slots.e1] (wrap .i64 (1 - AB.Running))) fun x1=>some (wrap .i64 (1 - AB.Running))
theorem nR {AB A1 c1 A2 c2 AZ r} (h:qE AB=some r):
    BA Tryz.prog 87 [.pointer (some ⟨AZ,0,none⟩)] [.ro (AV AQ A1 c1 AB.Slots.e0.AU.Data), .ro (AV AQ A2 c2 AB.Slots.e1.AU.Data), .res (Box AZ 64 (zF AB A1 c1 A2 c2))] (fun v F=>v= .pointer (some ⟨AZ,1+Int.toNat r*6,none⟩)∧F= [.res (Box AZ 64 (zF AB A1 c1 A2 c2))]):=by
 refine BA.intro Tryz.func87 O O O fun w R=>?_;refine .ab [0] O<|.seq<|.regionF mixed (by kernel_rfl)<|.n 4 O<|.lb 14 2 O<|.n 3 O<|.bd h fun x1 hx1 h=>.TG (sz:=6) hx1 O O O O O O O O<|.bq [2] O ?_;cases h;exact .rv O O ⟨O,O⟩ (zl [] 2 O)
theorem xw:BX Tryz.prog 27:=en Tryz.func27 (by kernel_rfl)
def sF [AP] (AB:zB):Option Bool:=
 bnd ((bif decide (AB.Active<0) then (some true) else (bif decide (AB.Active>1) then (some true) else (bif decide (AB.Running<0) then (some true) else (bif decide (AB.Running>1) then (some true) else (bnd (BP [AB.Slots.e0,AB.Slots.e1] AB.Active) fun x1=>bnd (nE AB x1) fun r1=>bif !r1 then (some true) else (bnd (BP [AB.Slots.e0,AB.Slots.e1] AB.Running) fun x2=>bnd (nE AB x2) fun r2=>some (!r2)))))):Option Bool)) fun o1=>bif o1 then (some false) else (bnd ((bif !AB.BK then (some true) else (bif (AB.Running==AB.Active) then (bnd (qE AB) fun r3=>bnd (BP [AB.Slots.e0,AB.Slots.e1] r3) fun x3=>bnd (nE AB x3) fun r4=>some r4) else (some false)):Option Bool)) fun o2=>some o2)
theorem nK [AP] {AB A1 c1 A2 c2 r} (h:sF AB=some r):
    BA Tryz.prog 27 [.agg (zF AB A1 c1 A2 c2).toArray] [.ro (AV AQ A1 c1 AB.Slots.e0.AU.Data), .ro (AV AQ A2 c2 AB.Slots.e1.AU.Data)] (Val (.bool r)):=by
 refine BA.intro Tryz.func27 O O O fun w R=>?_;refine .seq<|.region<|.box O O fun g1=>.b [1] O<|.seq<|.seq<|.bd h fun o1 hj1 h=>.DV 0 (fun (e1:Unit)=>[1, .s 40 (.bool o1)]) (fun e1=>[]) O O ?_ ?_
 ·refine .regionF mixed (by kernel_rfl)<|.p O O<|.lb 13 0 O<|.n 2 O<|.gs 6 hj1 O (fun hj1=>?_) (fun hj1=>?_)
  ·cases hj1;exact .beq O<|.hU O zw
  refine .n 1 O<|.BN O O<|.lb 13 0 O<|.n 3 O<|.gs 11 hj1 O (fun hj1=>?_) (fun hj1=>?_)
  ·cases hj1;exact .beq O<|.hU O zw
  refine .n 1 O<|.BN O O<|.lb 14 0 O<|.n 3 O<|.gs 16 hj1 O (fun hj1=>?_) (fun hj1=>?_)
  ·cases hj1;exact .beq O<|.hU O zw
  refine .n 1 O<|.BN O O<|.lb 14 0 O<|.n 3 O<|.gs 21 hj1 O (fun hj1=>?_) (fun hj1=>?_)
  ·cases hj1;exact .beq O<|.hU O zw
  refine .BN O O<|.lb 0 0 O<|.n 1 O<|.BN O O<|.lb 13 0 O<|.n 1 O<|.BN O O<|.bd hj1 fun x1 hx1 hj1=>.TG (sz:=6) hx1 O O O O O O O O<|.BN O O<|.UH (ls:=vO) 0 [.string AB.Name] [.int .i64 AB.Active, .int .i64 AB.Running, .bool AB.BK] [(AB.Slots.e0,((A1,c1),())),(AB.Slots.e1,((A2,c2),()))] (fun ex=>.agg (tN x1 ex.1.1 ex.1.2).toArray) hx1 O O (.head _) O O O ⟨EO,(zm 2 O),trivial⟩ O (fun _=>O) fun FC=>?_;obtain ⟨⟨A3,c3⟩,_⟩:=FC;refine .nm 4 O<|.BN O O<|.bd hj1 fun r1 hr1 hj1=>.cv [2,3,0] (fM hr1) Eb O<|.n 3 O<|.gs 31 hj1 O (fun hj1=>?_) (fun hj1=>?_)
  ·cases hj1;exact .beq O<|.hU O (zl [] 1 O)
  refine .BN O O<|.lb 0 1 O<|.n 1 O<|.BN O O<|.lb 14 1 O<|.n 1 O<|.BN O O<|.bd hj1 fun x2 hx2 hj1=>.TG (sz:=6) hx2 O O O O O O O O<|.BN O O<|.UH (ls:=vO) 0 [.string AB.Name] [.int .i64 AB.Active, .int .i64 AB.Running, .bool AB.BK] [(AB.Slots.e0,((A1,c1),())),(AB.Slots.e1,((A2,c2),()))] (fun ex=>.agg (tN x2 ex.1.1 ex.1.2).toArray) hx2 O O EO O O O ⟨(zm 2 O),(zm 3 O),trivial⟩ O (fun _=>O) fun JQ=>?_;obtain ⟨⟨A4,c4⟩,_⟩:=JQ;refine .nm 5 O<|.BN O O<|.bd hj1 fun r2 hr2 hj1=>.cv [3,4,0] (fM hr2) Eb O ?_;cases hj1;exact .beq O<|.hU O (zl [] 2 O)
 rintro e1;refine .cb h O (fun h=>?_) (fun h=>?_)
 ·refine .EK [2] [] 3 O O ?_;cases h;exact .rv O O ⟨O,O⟩ zw
 refine .sk<|.pr [1] O<|.seq<|.bd h fun o2 hj2 h=>.cu 3 [.s 2 (.bool o2)] [] O O ?_ ?_
 ·refine .BI (iN [0,5,8,12,16,21,24,29,32,36,40,47,48,55,59,60,64,68] .nil) _ mixed (by kernel_rfl) zw<|.yn 1 O<|.yx 15 0 O<|.yn 2 O<|.sB 44 hj2 O (fun hj2=>?_) (fun hj2=>?_)
  ·refine .yn 14 O<|.CQ ?_;cases hj2;exact .AO<|.hU O (zl [] 3 O)
  refine .yn 1 O<|.IY O O<|.yx 14 0 O<|.yn 1 O<|.IY O O<|.yx 13 0 O<|.yn 2 O<|.sB 50 hj2 O (fun hj2=>?_) (fun hj2=>?_)
  ·refine .IY O O<|.yl 0 0 O<|.IY O O<|.BV<|.bd hj2 fun r3 hr3 hj2=>.cq 3 [1,2] [] 0 (nR hr3) xu O<|.xk zw<|.yn 1 O<|.IY O O<|.BV<|.bd hj2 fun x3 hx3 hj2=>.UH (ls:=vO) 0 [.string AB.Name] [.int .i64 AB.Active, .int .i64 AB.Running, .bool AB.BK] [(AB.Slots.e0,((A1,c1),())),(AB.Slots.e1,((A2,c2),()))] (fun ex=>.agg (tN x3 ex.1.1 ex.1.2).toArray) hx3 O O (.head _) O O O ⟨EO,(zm 2 O),trivial⟩ O (fun _=>O) fun MX=>?_;obtain ⟨⟨A5,c5⟩,_⟩:=MX;refine .nm 4 O<|.xk (zl [] 1 O)<|.IY O O<|.BV<|.bd hj2 fun r4 hr4 hj2=>.cv [2,3,0] (fM hr4) Eb O<|.xk (zl [] 1 O)<|.yn 3 O<|.CQ ?_;cases hj2;exact .AO<|.hU O (zl [] 4 O)
  refine .yn 8 O<|.CQ ?_;cases hj2;exact .AO<|.hU O (zl [] 3 O)
 cases h;exact .rv O O ⟨O,O⟩ zw
theorem zUr:BX Tryz.prog 142:=en Tryz.func142 (by kernel_rfl)
def rY [AP] (BO:(List yE)):Option Bool:=
 bif decide ((BO.length:Int)>8) then (some false) else (bnd (yC (τ:=Bool ⊕ Unit) (fun (s1:Int)=>bif decide (s1<(BO.length:Int)) then (bnd (BP BO s1) fun x1=>bnd ((bnd (sX x1.Name) fun r1=>bif !r1 then (some true) else (bnd (tS x1.Version) fun r2=>bif !r2 then (some true) else (bif decide (s1>0) then (bnd (BP BO (wrap .i64 (s1 - 1))) fun x2=>some (Op.bytesLess x1.Name.toList x2.Name.toList||(x1.Name.toList==x2.Name.toList))) else (some false))):Option Bool)) fun o3=>bif o3 then (some (.done (.inl false))) else (some (.next (wrap .i64 (s1+1))))) else (some (.done (.inr ())))) 0) fun o1=>xL o1 fun o2=>some true)
theorem zAJ [AP] {BO A1 c1 r} (h:rY BO=some r):
    BA Tryz.prog 142 [.slice A1 BO.length c1] [.ro (AV zK A1 c1 BO)] (Val (.bool r)):=by
 refine BA.intro Tryz.func142 O O O fun w R=>?_;refine .ab [0] O<|.seq<|.ab [0,7] O<|.cb h O (fun h=>?_) (fun h=>?_)
 ·refine .EK [2] [] 1 O O ?_;cases h;exact .rv O O ⟨O,O⟩ zw
 refine .sk<|.pr [0] O<|.seq<|.ae O<|.bd h fun o1 hl1 h=>.ES 1 (fun (o2:Unit) (e2:Unit)=>[]) (fun o2 e2=>[]) O O (fun o2=>o1= .inr o2) ?_ ?_
 ·refine .block<|.BM hl1 0 (fun (s1:Int) (e1:Unit)=>[0,8,9, .s 10 (.int .i64 s1)]) (fun s1 e1=>[]) O O () (zb O) (fun _ w=>w) ?_;rintro s1 e1 st1 hm1 hd1 h1;refine .ae O<|.seq<|.cb h1 O (fun h1=>?_) (fun h1=>?_)
  ·refine .sk<|.pr [0,8,9,10] O<|.seq<|.block<|.a 1 O<|.bd h1 fun x1 hx1 h1=>.IB hx1 0 O fun b1 DY=>.ld DY 0 0 O<|.alloc O O fun g1=>.p O O<|.sb 0 0 O<|.bf [0,3,4,8,9,10] [0] 1 O O<|.seq<|.bd h1 fun o3 hj1 h1=>.cu 1 [0,8,9,10, .s 39 (.bool o3)] [] O O ?_ ?_
   ·refine .regionF mixed (by kernel_rfl)<|.p O O<|.lb 0 0 O<|.bd hj1 fun r1 hr1 hj1=>.cv [] (kN hr1) Ri O<|.n 2 O<|.gs 19 hj1 O (fun hj1=>?_) (fun hj1=>?_)
    ·cases hj1;exact .beq O<|.hU O (zl [] 1 O)
    refine .n 1 O<|.BN O O<|.lb 1 0 O<|.BN O O<|.bd hj1 fun r2 hr2 hj1=>.cv [] (mP hr2) Rj O<|.n 3 O<|.gs 25 hj1 O (fun hj1=>?_) (fun hj1=>?_)
    ·cases hj1;exact .beq O<|.hU O (zl [] 1 O)
    refine .n 3 O<|.gs 28 hj1 O (fun hj1=>?_) (fun hj1=>?_)
    ·refine .n 1 O<|.BN O O<|.lb 0 0 O<|.n 3 O<|.BN O O<|.bd hj1 fun x2 hx2 hj1=>.IB hx2 1 O fun b2 JD=>.n 1 O<|.BN O O<|.ld JD 0 0 O ?_;cases hj1;exact .beq O<|.hU O (zl [] 2 O)
    cases hj1;exact .beq O<|.hU O (zl [] 1 O)
   refine .cb h1 O (fun h1=>?_) (fun h1=>?_)
   ·refine .EK [2] [] 1 O O ?_;cases h1;cases hd1 _ rfl
    have h:some _=some _:=h;cases h;exact .rv O O ⟨O,O⟩ zw
   refine .skip<|.BL<|.AO<|.pr [0,8,9,10] O<|.region ?_;cases h1;exact .be O<|.ag () hm1 O zw
  refine .xq O ?_;cases h1;cases hd1 _ rfl
  exact .AO<|.CZ () () O trivial (zl [] 1 O)
 rintro o2 e2 ho;subst ho;have h:=JG h;refine .ae O ?_;cases h;exact .rv O O ⟨O,O⟩ zw
theorem zUk:BX Tryz.prog 143:=en Tryz.func143 (by kernel_rfl)
def mU [AP] (needs:(List yX)):Option Bool:=
 bif decide ((needs.length:Int)>16) then (some false) else (bnd (yC (τ:=Bool ⊕ Unit) (fun (s1:Int)=>bif decide (s1<(needs.length:Int)) then (bnd (BP needs s1) fun x1=>bnd ((bnd (sX x1.EL) fun r1=>bif !r1 then (some true) else (bnd (sX x1.On) fun r2=>bif !r2 then (some true) else (bif (x1.EL.toList==x1.On.toList) then (some true) else (bnd (tS x1.From) fun r3=>bif !r3 then (some true) else (bnd (tS x1.At) fun r4=>some (!r4))))):Option Bool)) fun o3=>bif o3 then (some (.done (.inl false))) else (some (.next (wrap .i64 (s1+1))))) else (some (.done (.inr ())))) 0) fun o1=>xL o1 fun o2=>some true)
theorem zEw [AP] {needs A1 c1 r} (h:mU needs=some r):
    BA Tryz.prog 143 [.slice A1 needs.length c1] [.ro (AV zS A1 c1 needs)] (Val (.bool r)):=by
 refine BA.intro Tryz.func143 O O O fun w R=>?_;refine .ab [0] O<|.seq<|.ab [0,7] O<|.cb h O (fun h=>?_) (fun h=>?_)
 ·refine .EK [2] [] 1 O O ?_;cases h;exact .rv O O ⟨O,O⟩ zw
 refine .sk<|.pr [0] O<|.seq<|.ab [8,9,10] O<|.bd h fun o1 hl1 h=>.ES 1 (fun (o2:Unit) (e2:Unit)=>[]) (fun o2 e2=>[]) O O (fun o2=>o1= .inr o2) ?_ ?_
 ·refine .block<|.BM hl1 0 (fun (s1:Int) (e1:Unit)=>[8,9, .s 10 (.int .i64 s1)]) (fun s1 e1=>[]) O O () (zb O) (fun _ w=>w) ?_;rintro s1 e1 st1 hm1 hd1 h1;refine .ae O<|.seq<|.cb h1 O (fun h1=>?_) (fun h1=>?_)
  ·refine .sk<|.pr [8,9,10] O<|.seq<|.block<|.seq<|.region<|.bd h1 fun x1 hx1 h1=>.IB hx1 0 O fun b1 DY=>.ld DY 0 0 O<|.alloc O O fun g1=>.sb 0 0 O<|.bf [4,8,9,10] [0] 1 O O<|.seq<|.bd h1 fun o3 hj1 h1=>.cu 1 [8,9,10, .s 42 (.bool o3)] [] O O ?_ ?_
   ·refine .region<|.p O O<|.lb 0 0 O<|.bd hj1 fun r1 hr1 hj1=>.cv [] (kN hr1) Ri O<|.n 2 O<|.gs 18 hj1 O (fun hj1=>?_) (fun hj1=>?_)
    ·cases hj1;exact .be O<|.hU O (zl [] 1 O)
    refine .n 1 O<|.BN O O<|.lb 4 0 O<|.BN O O<|.bd hj1 fun r2 hr2 hj1=>.cv [] (kN hr2) Ri O<|.n 3 O<|.gs 24 hj1 O (fun hj1=>?_) (fun hj1=>?_)
    ·cases hj1;exact .be O<|.hU O (zl [] 1 O)
    refine .n 1 O<|.BN O O<|.lb 0 0 O<|.n 1 O<|.BN O O<|.lb 4 0 O<|.n 3 O<|.gs 31 hj1 O (fun hj1=>?_) (fun hj1=>?_)
    ·cases hj1;exact .be O<|.hU O (zl [] 1 O)
    refine .n 1 O<|.BN O O<|.lb 1 0 O<|.BN O O<|.bd hj1 fun r3 hr3 hj1=>.cv [] (mP hr3) Rj O<|.n 3 O<|.gs 37 hj1 O (fun hj1=>?_) (fun hj1=>?_)
    ·cases hj1;exact .be O<|.hU O (zl [] 1 O)
    refine .n 1 O<|.BN O O<|.lb 5 0 O<|.BN O O<|.bd hj1 fun r4 hr4 hj1=>.cv [] (mP hr4) Rj O ?_;cases hj1;exact .be O<|.hU O (zl [] 1 O)
   refine .cb h1 O (fun h1=>?_) (fun h1=>?_)
   ·refine .EK [2] [] 1 O O ?_;cases h1;cases hd1 _ rfl
    have h:some _=some _:=h;cases h;exact .rv O O ⟨O,O⟩ zw
   refine .skip<|.BL<|.AO<|.pr [8,9,10] O<|.region ?_;cases h1;exact .be O<|.ag () hm1 O zw
  refine .xq O ?_;cases h1;cases hd1 _ rfl
  exact .AO<|.CZ () () O trivial (zl [] 1 O)
 rintro o2 e2 ho;subst ho;have h:=JG h;refine .ae O ?_;cases h;exact .rv O O ⟨O,O⟩ zw
theorem zON:BX Tryz.prog 169:=en Tryz.func169 (by kernel_rfl)
def kF [AP] (BO:(List yE)) (name:ByteArray):Option (zQ × Bool):=
 bnd (yC (τ:=(zQ × Bool) ⊕ Unit) (fun (s1:Int)=>bif decide (s1<(BO.length:Int)) then (bnd (BP BO s1) fun x1=>bif (x1.Name.toList==name.toList) then (some (.done (.inl (x1.Version,true)))) else (some (.next (wrap .i64 (s1+1))))) else (some (.done (.inr ())))) 0) fun o1=>xL o1 fun o2=>some ((⟨0,0,0⟩:zQ),false)
theorem zAU [AP] {BO name A1 c1 r} (h:kF BO name=some r):
    BA Tryz.prog 169 [.slice A1 BO.length c1, .string name] [.ro (AV zK A1 c1 BO)] (Val (.tuple #[.agg #[.int .i64 r.1.BZ, .int .i64 r.1.CB, .int .i64 r.1.CJ], .bool r.2])):=by
 refine BA.intro Tryz.func169 O O O fun w R=>?_;refine .seq<|.region<|.alloc O O fun g1=>.b [0,1,4] O<|.seq<|.ab [1,4,8,9,10] O<|.bd h fun o1 hl1 h=>.ES 2 (fun (o2:Unit) (e2:Unit)=>[4]) (fun o2 e2=>[0]) O O (fun o2=>o1= .inr o2) ?_ ?_
 ·refine .block<|.BM hl1 0 (fun (s1:Int) (e1:Unit)=>[1,4,8,9, .s 10 (.int .i64 s1)]) (fun s1 e1=>[]) O O () (zb O) (fun _ w=>w) ?_;rintro s1 e1 st1 hm1 hd1 h1;refine .ae O<|.seq<|.cb h1 O (fun h1=>?_) (fun h1=>?_)
  ·refine .sk<|.pr [1,4,8,9,10] O<|.seq<|.block<|.seq<|.region<|.bd h1 fun x1 hx1 h1=>.IB hx1 1 O fun b1 DY=>.ld DY 0 0 O<|.alloc O O fun g2=>.sb 0 0 O<|.bf [1,4,7,8,9,10] [0] 1 O O<|.a 1 O<|.lb 0 0 O<|.b [1,4,7,8,9,10,17] O<|.cb h1 O (fun h1=>?_) (fun h1=>?_)
   ·refine .a 1 O<|.lb 1 0 O<|.sb 0 1 O<|.bf [4,5] [0] 2 O O ?_;cases h1;cases hd1 _ rfl
    have h:some _=some _:=h;cases h;exact .rt O Tryz.results169 (.cell O (.head _) O (.tmp O .nil)) O ⟨O,O⟩ (zl [] 1 O)
   refine .skip<|.BL<|.AO<|.pf [1,4,8,9,10] [] 1 O O<|.region ?_;cases h1;exact .be O<|.ag () hm1 O zw
  refine .xq O ?_;cases h1;cases hd1 _ rfl
  exact .AO<|.CZ () () O (zb O) (zl [0] 1 O)
 rintro o2 e2 ho;subst ho;have h:=JG h;refine .a 1 O<|.sb 0 0 O<|.b [4,5] O ?_;cases h;exact .rt O Tryz.results169 (.cell O (.head _) O (.tmp O .nil)) O ⟨O,O⟩ (zl [] 1 O)
theorem zQA:BX Tryz.prog 266:=en Tryz.func266 (by kernel_rfl)
def mT (DI:Int):Option Bool:=
 some (DI != DI)
theorem aI {DI r} (h:mT DI=some r):
    BA Tryz.prog 266 [.int .i64 DI] [] (Val (.bool r)):=by
 unfold mT at h
 refine BA.intro Tryz.func266 O O O fun w R=>?_;refine .ab [0] O<|.ab [2] O ?_;cases h;exact .rv O O ⟨O,O⟩ zw
theorem y9:BX Tryz.prog 256:=en Tryz.func256 (by kernel_rfl)
def oP (DI:Int) (GX:Int):Option Int:=
 bnd (mT DI) fun r1=>bnd (mT GX) fun r2=>bif r1 then (bif r2 then (some 0) else (some (-1))) else (bif r2 then (some 1) else (bif decide (DI<GX) then (some (-1)) else (bif decide (DI>GX) then (some 1) else (some 0))))
theorem lV {DI GX r} (h:oP DI GX=some r):
    BA Tryz.prog 256 [.int .i64 DI, .int .i64 GX] [] (Val (.int .i64 r)):=by
 refine BA.intro Tryz.func256 O O O fun w R=>?_;refine .ab [0,1] O<|.a 1 O<|.bd h fun r1 hr1 h=>.cv [] (aI hr1) zQA O<|.b [0,1,5] O<|.a 1 O<|.bd h fun r2 hr2 h=>.cv [] (aI hr2) zQA O<|.b [0,1,5,6] O<|.seq<|.ab [0,1,6,11] O<|.cb h O (fun h=>?_) (fun h=>?_)
 ·refine .seq<|.ab [12] O<|.cb h O (fun h=>?_) (fun h=>?_)
  ·refine .ab [4] O ?_;cases h;exact .rv O O ⟨O,O⟩ zw
  refine .sk<|.pr [] O<|.ae O ?_;cases h;exact .rv O O ⟨O,O⟩ zw
 refine .sk<|.pr [0,1,6] O<|.seq<|.ab [0,1,13] O<|.cb h O (fun h=>?_) (fun h=>?_)
 ·refine .ab [4] O ?_;cases h;exact .rv O O ⟨O,O⟩ zw
 refine .sk<|.pr [0,1] O<|.seq<|.ab [0,1,16] O<|.cb h O (fun h=>?_) (fun h=>?_)
 ·refine .ab [4] O ?_;cases h;exact .rv O O ⟨O,O⟩ zw
 refine .sk<|.pr [0,1] O<|.seq<|.ab [19] O<|.cb h O (fun h=>?_) (fun h=>?_)
 ·refine .ab [4] O ?_;cases h;exact .rv O O ⟨O,O⟩ zw
 refine .sk<|.pr [] O<|.ae O ?_;cases h;exact .rv O O ⟨O,O⟩ zw
theorem zTE:BX Tryz.prog 233:=en Tryz.func233 (by kernel_rfl)
def jB (AL:(WS Int)) (DC:(WS Int)):Option Int:=
 bnd (oP AL.e0 DC.e0) fun r1=>bif (r1 != 0) then (some r1) else (bnd (oP AL.e1 DC.e1) fun r2=>bif (r2 != 0) then (some r2) else (bnd (oP AL.e2 DC.e2) fun r3=>bif (r3 != 0) then (some r3) else (some 0)))
theorem aT {AL DC r} (h:jB AL DC=some r):
    BA Tryz.prog 233 [.agg #[.int .i64 AL.e0, .int .i64 AL.e1, .int .i64 AL.e2], .agg #[.int .i64 DC.e0, .int .i64 DC.e1, .int .i64 DC.e2]] [] (Val (.int .i64 r)):=by
 refine BA.intro Tryz.func233 O O O fun w R=>?_;refine .seq<|.region<|.box O O fun g1=>.box O O fun g2=>.b [2,3] O<|.seq<|.ae O<|.block<|.rounds 9<|.round<|.ae O<|.seq<|.EP O<|.sk<|.pr [2,3,7] O<|.seq<|.block<|.ab [2,3,5,7] O<|.seq<|.regionF mixed (by kernel_rfl)<|.n 2 O<|.lb 0 1 O<|.n 2 O<|.lb 0 0 O<|.bd h fun r1 hr1 h=>.cv [] (lV hr1) y9 O<|.bq [2,3,6,7] O<|.ab [2,3,6,7,18] O<|.cb h O (fun h=>?_) (fun h=>?_)
 ·refine .EK [4] [] 2 O O ?_;cases h;exact .rv O O ⟨O,O⟩ zw
 refine .skip<|.BL<|.AO<|.pr [2,3,7] O<|.region<|.be O<|.round<|.pr [2,3,7] O<|.ae O<|.seq<|.EP O<|.sk<|.pr [2,3,7] O<|.seq<|.block<|.ab [2,3,5,7] O<|.seq<|.regionF mixed (by kernel_rfl)<|.n 2 O<|.lb 1 1 O<|.n 2 O<|.lb 1 0 O<|.bd h fun r2 hr2 h=>.cv [] (lV hr2) y9 O<|.bq [2,3,6,7] O<|.ab [2,3,6,7,18] O<|.cb h O (fun h=>?_) (fun h=>?_)
 ·refine .EK [4] [] 2 O O ?_;cases h;exact .rv O O ⟨O,O⟩ zw
 refine .skip<|.BL<|.AO<|.pr [2,3,7] O<|.region<|.be O<|.round<|.pr [2,3,7] O<|.ae O<|.seq<|.EP O<|.sk<|.pr [2,3,7] O<|.seq<|.block<|.ab [2,3,5,7] O<|.seq<|.regionF mixed (by kernel_rfl)<|.n 2 O<|.lb 2 1 O<|.n 2 O<|.lb 2 0 O<|.bd h fun r3 hr3 h=>.cv [] (lV hr3) y9 O<|.bq [2,3,6,7] O<|.ab [2,3,6,7,18] O<|.cb h O (fun h=>?_) (fun h=>?_)
 ·refine .EK [4] [] 2 O O ?_;cases h;exact .rv O O ⟨O,O⟩ zw
 refine .skip<|.BL<|.AO<|.pr [2,3,7] O<|.region<|.be O<|.round<|.pr [2,3,7] O<|.ae O<|.seq<|.FU O<|.xq O<|.AO<|.pf [] [] 2 O O<|.ae O ?_;cases h;exact .rv O O ⟨O,O⟩ zw
theorem zPY:BX Tryz.prog 170:=en Tryz.func170 (by kernel_rfl)
def kG (AL:zQ) (DC:zQ):Option Int:=
 bnd (tQ AL) fun r1=>bnd (tQ DC) fun r2=>bnd (jB r1 r2) fun r3=>some r3
theorem eM {AL DC r} (h:kG AL DC=some r):
    BA Tryz.prog 170 [.agg #[.int .i64 AL.BZ, .int .i64 AL.CB, .int .i64 AL.CJ], .agg #[.int .i64 DC.BZ, .int .i64 DC.CB, .int .i64 DC.CJ]] [] (Val (.int .i64 r)):=by
 refine BA.intro Tryz.func170 O O O fun w R=>?_;refine .seq<|.region<|.box O O fun g1=>.box O O fun g2=>.b [2,3] O<|.seq<|.regionF mixed (by kernel_rfl)<|.lb 0 1 O<|.bd h fun r1 hr1 h=>.cv [] (kC hr1) y7 O<|.lb 0 0 O<|.bd h fun r2 hr2 h=>.cv [] (kC hr2) y7 O<|.bd h fun r3 hr3 h=>.cv [] (aT hr3) zTE O<|.beq O<|.pf [4] [] 2 O O ?_;cases h;exact .rv O O ⟨O,O⟩ zw
theorem zVw:BX Tryz.prog 92:=en Tryz.func92 (by kernel_rfl)
def jP [AP] (BO:(List yE)) (EN:yX):Option Bool:=
 bnd (kF BO EN.EL) fun r1=>bnd ((bif !r1.2 then (some true) else (bnd (kG r1.1 EN.From) fun r2=>some (decide (r2<0))):Option Bool)) fun o1=>bif o1 then (some true) else (bnd (kF BO EN.On) fun r3=>bnd ((bif r3.2 then (bnd (kG r3.1 EN.At) fun r4=>some (decide (r4≥0))) else (some false):Option Bool)) fun o2=>some o2)
theorem zHa [AP] {BO EN A1 c1 r} (h:jP BO EN=some r):
    BA Tryz.prog 92 [.slice A1 BO.length c1, .agg (zIb EN).toArray] [.ro (AV zK A1 c1 BO)] (Val (.bool r)):=by
 refine BA.intro Tryz.func92 O O O fun w R=>?_;refine .seq<|.region<|.box O O fun g1=>.b [0,3] O<|.a 2 O<|.lb 0 0 O<|.bd h fun r1 hr1 h=>.cv [1] (zAU hr1) zON O<|.n 3 O<|.alloc O O fun g2=>.sb 0 0 O<|.b [0,3,5,6] O<|.seq<|.seq<|.bd h fun o1 hj1 h=>.cu 1 [0,3, .s 23 (.bool o1)] [] O O ?_ ?_
 ·refine .region<|.n 3 O<|.gs 17 hj1 O (fun hj1=>?_) (fun hj1=>?_)
  ·cases hj1;exact .be O<|.hU O (zl [] 1 O)
  refine .BN O O<|.lb 0 0 O<|.n 1 O<|.BN O O<|.lb 1 1 O<|.BN O O<|.bd hj1 fun r2 hr2 hj1=>.cv [] (eM hr2) zPY O ?_;cases hj1;exact .be O<|.hU O (zl [] 1 O)
 refine .cb h O (fun h=>?_) (fun h=>?_)
 ·refine .EK [4] [] 2 O O ?_;cases h;exact .rv O O ⟨O,O⟩ zw
 refine .sk<|.pr [0,3] O<|.a 2 O<|.lb 4 0 O<|.bd h fun r3 hr3 h=>.cv [1] (zAU hr3) zON O<|.n 3 O<|.alloc O O fun g3=>.sb 0 0 O<|.bf [3,6,7] [0,0] 1 O O<|.seq<|.bd h fun o2 hj2 h=>.cu 2 [.s 4 (.bool o2)] [] O O ?_ ?_
 ·refine .region<|.n 2 O<|.gs 32 hj2 O (fun hj2=>?_) (fun hj2=>?_)
  ·refine .BN O O<|.lb 0 0 O<|.n 1 O<|.BN O O<|.lb 5 1 O<|.BN O O<|.bd hj2 fun r4 hr4 hj2=>.cv [] (eM hr4) zPY O ?_;cases hj2;exact .be O<|.hU O (zl [] 2 O)
  cases hj2;exact .be O<|.hU O (zl [] 2 O)
 cases h;exact .rv O O ⟨O,O⟩ zw
theorem ZN:BX Tryz.prog 62:=en Tryz.func62 (by kernel_rfl)
def wI [AP] (BO:(List yE)) (needs:(List yX)):Option (Int × Int):=
 bnd (rY BO) fun r1=>bif !r1 then (some (0,1)) else (bnd (mU needs) fun r2=>bif !r2 then (some (0,2)) else (bnd (yC (τ:=(Int × Int) ⊕ Unit) (fun (s1:Int)=>bif decide (s1<(needs.length:Int)) then (bnd (BP needs s1) fun x1=>bnd (jP BO x1) fun r3=>bif !r3 then (some (.done (.inl (s1,0)))) else (some (.next (wrap .i64 (s1+1))))) else (some (.done (.inr ())))) 0) fun o1=>xL o1 fun o2=>some ((-1),0)))
theorem uK [AP] {BO needs A1 c1 A2 c2 r} (h:wI BO needs=some r):
    BA Tryz.prog 62 [.slice A1 BO.length c1, .slice A2 needs.length c2] [.ro (AV zK A1 c1 BO), .ro (AV zS A2 c2 needs)] (Val (.tuple #[.int .i64 r.1, .int .i64 r.2])):=by
 refine BA.intro Tryz.func62 O O O fun w R=>?_;refine .ab [0,1] O<|.seq<|.a 1 O<|.bd h fun r1 hr1 h=>.cv [0] (zAJ hr1) zUr O<|.b [0,1,10] O<|.cb h O (fun h=>?_) (fun h=>?_)
 ·refine .EK [4,5] [] 2 O O ?_;cases h;exact .rv O O ⟨O,O⟩ zw
 refine .sk<|.pr [0,1] O<|.seq<|.a 1 O<|.bd h fun r2 hr2 h=>.cv [1] (zEw hr2) zUk O<|.b [0,1,13] O<|.cb h O (fun h=>?_) (fun h=>?_)
 ·refine .EK [4,5] [] 2 O O ?_;cases h;exact .rv O O ⟨O,O⟩ zw
 refine .sk<|.pr [0,1] O<|.seq<|.ab [0,14,15,16] O<|.bd h fun o1 hl1 h=>.ES 2 (fun (o2:Unit) (e2:Unit)=>[]) (fun o2 e2=>[]) O O (fun o2=>o1= .inr o2) ?_ ?_
 ·refine .block<|.BM hl1 0 (fun (s1:Int) (e1:Unit)=>[0,14,15, .s 16 (.int .i64 s1)]) (fun s1 e1=>[]) O O () (zb O) (fun _ w=>w) ?_;rintro s1 e1 st1 hm1 hd1 h1;refine .ae O<|.seq<|.cb h1 O (fun h1=>?_) (fun h1=>?_)
  ·refine .sk<|.pr [0,14,15,16] O<|.seq<|.block<|.a 1 O<|.bd h1 fun x1 hx1 h1=>.IB hx1 1 O fun b1 DY=>.ld DY 0 0 O<|.alloc O O fun g1=>.p O O<|.sb 0 0 O<|.bf [0,6,7,14,15,16] [0] 1 O O<|.a 1 O<|.lb 0 0 O<|.bd h1 fun r3 hr3 h1=>.cv [1] (zHa hr3) zVw O<|.bf [0,6,14,15,16,24] [] 1 O O<|.cb h1 O (fun h1=>?_) (fun h1=>?_)
   ·refine .EK [4,5] [] 2 O O ?_;cases h1;cases hd1 _ rfl
    have h:some _=some _:=h;cases h;exact .rv O O ⟨O,O⟩ zw
   refine .skip<|.BL<|.AO<|.pr [0,14,15,16] O<|.region ?_;cases h1;exact .be O<|.ag () hm1 O zw
  refine .xq O ?_;cases h1;cases hd1 _ rfl
  exact .AO<|.CZ () () O trivial (zl [] 2 O)
 rintro o2 e2 ho;subst ho;have h:=JG h;refine .ae O ?_;cases h;exact .rv O O ⟨O,O⟩ zw
theorem C9:BX Tryz.prog 63:=en Tryz.func63 (by kernel_rfl)
def xC (AX:(List yX)):Option (List yX):=
 bnd (app 80 ([]) AX) fun l1=>some l1
theorem vU {AX A1 c1 r} (h:xC AX=some r):
    BA Tryz.prog 63 [.slice A1 AX.length c1] [.ro (AV zS A1 c1 AX)] (fun v F=>∃ A2 c2,v= .slice A2 r.length c2∧F= [.res (zI zS 123 A2 c2 r)]):=by
 unfold xC at h
 refine BA.intro Tryz.func63 O O O fun w R=>?_
 rcases A1 with _ | ad
 ·refine .fact (φ:=AX= []) (fun w hf=>(hf.ro (r:=AV zS none c1 AX) (.head _)).2.2.1 O) fun hs=>?_;subst hs;have h:(some ([]):Option (List yX))=some r:=by simpa [app,bnd] using h
  refine .ab [0] O<|.seq<|.ab [0,4] O<|.EP O<|.EK [2] [] 1 O O<|.AY (fun _ w=>w.HY zS 123) ?_;cases h;exact .rv O O ⟨none,0,O,O⟩ zw
 refine .ab [0] O<|.seq<|.ab [0,4] O<|.FU O<|.sk<|.pr [0] O<|.seq<|.region<|.bS O fun g1=>.p O O<|.AY (fun _ w=>w.IL (E:=zS) (e:=123) [] O O)<|.bd h fun l1 hl1 h=>.app (E:=zS) hl1 O O O .z O O O O O O O O (gU EO) O O fun A2 c2=>.bf [2] [0] 1 O O ?_;cases h;exact .rv O O ⟨A2,c2,O,O⟩ zw
theorem zSf:BX Tryz.prog 64:=en Tryz.func64 (by kernel_rfl)
def oC (AB:zB):Option zB:=
 bnd (zV AB.Slots.e0.AU.Data) fun r1=>bnd (zV AB.Slots.e1.AU.Data) fun r2=>some (⟨AB.Name,(⟨(⟨(⟨AB.Slots.e0.AU.Name,AB.Slots.e0.AU.Version,r1⟩:zN),AB.Slots.e0.Sum⟩:yA),(⟨(⟨AB.Slots.e1.AU.Name,AB.Slots.e1.AU.Version,r2⟩:zN),AB.Slots.e1.Sum⟩:yA)⟩:(tH yA)),AB.Active,AB.Running,AB.BK⟩:zB)
theorem aL {AB A1 c1 A2 c2 r} (h:oC AB=some r):
    BA Tryz.prog 64 [.agg (zF AB A1 c1 A2 c2).toArray] [.ro (AV AQ A1 c1 AB.Slots.e0.AU.Data), .ro (AV AQ A2 c2 AB.Slots.e1.AU.Data)] (fun v F=>∃ A3 c3 A4 c4,v= .agg (zF r A3 c3 A4 c4).toArray∧F= [.ro (AV AQ A3 c3 r.Slots.e0.AU.Data), .ro (AV AQ A4 c4 r.Slots.e1.AU.Data)]):=by
 refine BA.intro Tryz.func64 O O O fun w R=>?_;refine .seq<|.region<|.box O O fun g1=>.alloc O O fun g2=>.b [1,2] O<|.seq<|.ae O<|.block<|.rounds 9<|.round<|.ae O<|.seq<|.EP O<|.sk<|.pr [1,2,4] O<|.seq<|.block<|.ab [1,2,3,4] O<|.region<|.n 6 O<|.lb 5 1 O<|.bd h fun r1 hr1 h=>.cr 5 [2] [] 0 (yN hr1) aJ O fun A3 c3=>.n 4 O<|.sb 5 2 O<|.done<|.BL<|.AO<|.pf [1,2,4] [0,0,0] 1 O O<|.region<|.be O<|.round<|.pr [1,2,4] O<|.ae O<|.seq<|.EP O<|.sk<|.pr [1,2,4] O<|.seq<|.block<|.ab [1,2,3,4] O<|.region<|.n 6 O<|.lb 11 0 O<|.bd h fun r2 hr2 h=>.cr 5 [3] [] 0 (yN hr2) aJ O fun A4 c4=>.n 4 O<|.sb 11 1 O<|.done<|.BL<|.AO<|.pf [1,2,4] [0,0,0,0] 1 O O<|.region<|.be O<|.round<|.pr [1,2,4] O<|.ae O<|.seq<|.FU O<|.xq O<|.AO<|.pr [1,2] O<|.seq<|.region<|.lb 0 0 O<|.sb 0 3 O<|.bf [2] [0] 1 O O<|.AY (fun _ w=>(w.sl [2] 0 O).BU)<|.AY (fun _ w=>(w.sl [2] 0 O).BU) ?_;cases h;exact .rt O Tryz.results64 (.cell O MQ O .nil) O ⟨A3,c3,A4,c4,O,O⟩ (zk 2 3 [1,0] [] 0 O)
theorem jd:BX Tryz.prog 94:=en Tryz.func94 (by kernel_rfl)
def uX (AB:zB):Option zB:=
 bnd (pR AB.Slots.e0.AU) fun r1=>bnd (pR AB.Slots.e1.AU) fun r2=>some (⟨AB.Name,(⟨(⟨r1,AB.Slots.e0.Sum⟩:yA),(⟨r2,AB.Slots.e1.Sum⟩:yA)⟩:(tH yA)),AB.Active,AB.Running,AB.BK⟩:zB)
theorem oI {AB A1 c1 A2 c2 r} (h:uX AB=some r):
    BA Tryz.prog 94 [.agg (zF AB A1 c1 A2 c2).toArray] [.ro (AV AQ A1 c1 AB.Slots.e0.AU.Data), .ro (AV AQ A2 c2 AB.Slots.e1.AU.Data)] (fun v F=>∃ A3 c3 A4 c4,v= .agg (zF r A3 c3 A4 c4).toArray∧F= [.ro (AV AQ A3 c3 r.Slots.e0.AU.Data), .ro (AV AQ A4 c4 r.Slots.e1.AU.Data)]):=by
 refine BA.intro Tryz.func94 O O O fun w R=>?_;refine .seq<|.region<|.box O O fun g1=>.alloc O O fun g2=>.b [1,2] O<|.seq<|.ae O<|.block<|.rounds 9<|.round<|.ae O<|.seq<|.EP O<|.sk<|.pr [1,2,4] O<|.seq<|.block<|.ab [1,2,3,4] O<|.region<|.n 5 O<|.lb 1 1 O<|.bd h fun r1 hr1 h=>.cr 5 [2] [] 0 (gS hr1) xh O fun A3 c3=>.n 3 O<|.sb 1 2 O<|.done<|.BL<|.AO<|.pf [1,2,4] [0,0,0] 1 O O<|.region<|.be O<|.round<|.pr [1,2,4] O<|.ae O<|.seq<|.EP O<|.sk<|.pr [1,2,4] O<|.seq<|.block<|.ab [1,2,3,4] O<|.region<|.n 5 O<|.lb 7 0 O<|.bd h fun r2 hr2 h=>.cr 5 [3] [] 0 (gS hr2) xh O fun A4 c4=>.n 3 O<|.sb 7 1 O<|.done<|.BL<|.AO<|.pf [1,2,4] [0,0,0,0] 1 O O<|.region<|.be O<|.round<|.pr [1,2,4] O<|.ae O<|.seq<|.FU O<|.xq O<|.AO<|.pr [1,2] O<|.seq<|.region<|.lb 0 0 O<|.sb 0 3 O<|.bf [2] [0] 1 O O ?_;cases h;exact .rt O Tryz.results94 (.cell O (.head _) O .nil) O ⟨A3,c3,A4,c4,O,O⟩ (zk 2 3 [2,1] [] 0 O)
theorem zRU:BX Tryz.prog 35:=en Tryz.func35 (by kernel_rfl)
def eN [AP] (AB:zB):Option zB:=
 bnd (sF AB) fun r1=>bif !r1 then (some (⟨⟨#[]⟩,(⟨(⟨(⟨⟨#[]⟩,(⟨0,0,0⟩:zQ), []⟩:zN),0⟩:yA),(⟨(⟨⟨#[]⟩,(⟨0,0,0⟩:zQ), []⟩:zN),0⟩:yA)⟩:(tH yA)),0,0,false⟩:zB)) else (bnd (uX AB) fun r2=>bif r2.BK then (some (⟨r2.Name,r2.Slots,r2.Active,wrap .i64 (1 - r2.Active),false⟩:zB)) else (some (⟨r2.Name,r2.Slots,r2.Active,r2.Active,r2.BK⟩:zB)))
theorem zKc [AP] {AB A1 c1 A2 c2 r} (h:eN AB=some r):
    BA Tryz.prog 35 [.agg (zF AB A1 c1 A2 c2).toArray] [.ro (AV AQ A1 c1 AB.Slots.e0.AU.Data), .ro (AV AQ A2 c2 AB.Slots.e1.AU.Data)] (fun v F=>∃ A3 c3 A4 c4,v= .agg (zF r A3 c3 A4 c4).toArray∧F= [.ro (AV AQ A3 c3 r.Slots.e0.AU.Data), .ro (AV AQ A4 c4 r.Slots.e1.AU.Data)]):=by
 refine BA.intro Tryz.func35 O O O fun w R=>?_;refine .seq<|.region<|.box O O fun g1=>.alloc O O fun g2=>.b [1,2] O<|.seq<|.seq<|.region<|.lb 0 1 O<|.bd h fun r1 hr1 h=>.cv [2,3] (nK hr1) xw O<|.b [1,2,6] O<|.cb h O (fun h=>?_) (fun h=>?_)
 ·refine .a 1 O<|.sb 0 0 O<|.bf [2] [0] 3 O O<|.AY (fun _ w=>w.CU (CY AQ))<|.AY (fun _ w=>w.CU (CY AQ)) ?_;cases h;exact .rt O Tryz.results35 (.cell O MQ O .nil) O ⟨none,0,none,0,O,O⟩ (zk 2 3 [0,0] [] 0 O)
 refine .sk<|.pr [1,2] O<|.seq<|.region<|.lb 0 1 O<|.bd h fun r2 hr2 h=>.ct 6 [2,3] [] 0 (oI hr2) jd O fun A3 c3 A4 c4=>.alloc O O fun g3=>.sb 0 0 O<|.bf [2,3] [0,0,0,0] 3 O O<|.a 1 O<|.lb 13 0 O<|.p O O<|.sb 14 0 O<|.b [2,3] O<|.seq<|.a 1 O<|.lb 15 0 O<|.b [2,3,14] O<|.cb h O (fun h=>?_) (fun h=>?_)
 ·refine .region<|.p O O<|.lb 13 0 O<|.n 2 O<|.sb 14 0 O<|.p O O<|.sb 15 0 O<|.b [2,3] O<|.seq<|.region<|.lb 0 0 O<|.sb 0 3 O<|.bf [2] [0] 1 O O ?_;cases h;exact .rt O Tryz.results35 (.cell O (.head _) O .nil) O ⟨A3,c3,A4,c4,O,O⟩ (zk 2 3 [1,2] [] 0 O)
 refine .sk<|.pr [2,3] O<|.seq<|.region<|.lb 0 0 O<|.sb 0 3 O<|.bf [2] [0] 1 O O ?_;cases h;exact .rt O Tryz.results35 (.cell O (.head _) O .nil) O ⟨A3,c3,A4,c4,O,O⟩ (zk 2 3 [1,2] [] 0 O)
theorem zUF:BX Tryz.prog 65:=en Tryz.func65 (by kernel_rfl)
def vQ (AX:zE) (key:Int):Option ((List Int) × Bool):=
 bnd (zV ((vW (yH .u8).eq (AX.all.getD []) key).getD [])) fun r1=>some (r1,(vW (yH .u8).eq (AX.all.getD []) key).isSome)
theorem zAu {AX key M1 AZ BJ r} (h:vQ AX key=some r):
    BA Tryz.prog 65 [.pointer (some ⟨AZ,0,none⟩), .int .u8 key] [.res (Box AZ 135 (zR AX BJ M1)), .res (yV (yH .u8) (CY AQ) M1 AX.all)] (fun v F=>∃ A1 c1,v= .tuple #[.slice A1 r.1.length c1, .bool r.2]∧F= [.res (Box AZ 135 (zR AX BJ M1)), .res (yV (yH .u8) (CY AQ) M1 AX.all), .res (zI AQ 5 A1 c1 r.1)]):=by
 refine BA.intro Tryz.func65 O O O fun w R=>?_;refine .ab [0,1] O<|.a 3 O<|.lb 4 0 O<|.p O O<|.TL (K:=(yH .u8)) (E:=(CY AQ)) key O O O EO O O O O O O fun A1 c1=>.b [6,7] O<|.a 1 O<|.bd h fun r1 hr1 h=>.cr 4 [0] [] 0 (yN hr1) aJ O fun A2 c2=>.bf [4,5] [0] 1 O O ?_;cases h;exact .rv O O ⟨A2,c2,O,O⟩ (zl [1,1] 0 O)
theorem zTC:BX Tryz.prog 224:=en Tryz.func224 (by kernel_rfl)
def qY [AP] (AX:(List Int)) (IC:Int):Option Int:=
 bnd (yC (τ:=Int ⊕ Unit) (fun (s1:Int)=>bif decide (s1<(AX.length:Int)) then (bnd (BP AX s1) fun x1=>bif (IC==x1) then (some (.done (.inl s1))) else (some (.next (wrap .i64 (s1+1))))) else (some (.done (.inr ())))) 0) fun o1=>xL o1 fun o2=>some (-1)
theorem dZ [AP] {AX IC A1 c1 r} (h:qY AX IC=some r):
    BA Tryz.prog 224 [.slice A1 AX.length c1, .int .i64 IC] [.ro (AV zU A1 c1 AX)] (Val (.int .i64 r)):=by
 refine BA.intro Tryz.func224 O O O fun w R=>?_;refine .ab [0,1] O<|.seq<|.ab [0,1,7,8] O<|.bd h fun o1 hl1 h=>.ES 1 (fun (o2:Unit) (e2:Unit)=>[]) (fun o2 e2=>[]) O O (fun o2=>o1= .inr o2) ?_ ?_
 ·refine .block<|.BM hl1 0 (fun (s1:Int) (e1:Unit)=>[0,1,7, .s 8 (.int .i64 s1)]) (fun s1 e1=>[]) O O () (zb O) (fun _ w=>w) ?_;rintro s1 e1 st1 hm1 hd1 h1;refine .ae O<|.seq<|.cb h1 O (fun h1=>?_) (fun h1=>?_)
  ·refine .sk<|.pr [0,1,7,8] O<|.seq<|.block<|.ab [0,1,5,7,8] O<|.a 3 O<|.bd h1 fun x1 hx1 h1=>.IB hx1 0 O fun b1 DY=>.ld DY 0 0 O<|.bf [0,1,5,7,8,16] [] 1 O O<|.cb h1 O (fun h1=>?_) (fun h1=>?_)
   ·refine .EK [4] [] 1 O O ?_;cases h1;cases hd1 _ rfl
    have h:some _=some _:=h;cases h;exact .rv O O ⟨O,O⟩ zw
   refine .skip<|.BL<|.AO<|.pr [0,1,7,8] O<|.region ?_;cases h1;exact .be O<|.ag () hm1 O zw
  refine .xq O ?_;cases h1;cases hd1 _ rfl
  exact .AO<|.CZ () () O trivial (zl [] 1 O)
 rintro o2 e2 ho;subst ho;have h:=JG h;refine .ae O ?_;cases h;exact .rv O O ⟨O,O⟩ zw
theorem zTm:BX Tryz.prog 144:=en Tryz.func144 (by kernel_rfl)
def xU [AP] (AX:(List Int)) (IC:Int):Option Bool:=
 bnd (qY AX IC) fun r1=>some (decide (r1≥0))
theorem fU [AP] {AX IC A1 c1 r} (h:xU AX IC=some r):
    BA Tryz.prog 144 [.slice A1 AX.length c1, .int .i64 IC] [.ro (AV zU A1 c1 AX)] (Val (.bool r)):=by
 refine BA.intro Tryz.func144 O O O fun w R=>?_;refine .ab [0,1] O<|.a 2 O<|.bd h fun r1 hr1 h=>.cv [0] (dZ hr1) zTC O<|.bf [4] [] 1 O O ?_;cases h;exact .rv O O ⟨O,O⟩ zw
theorem zUZ:BX Tryz.prog 66:=en Tryz.func66 (by kernel_rfl)
def tY [AP] (AL:zM) (DF:(List Int)):Option (zM × Bool):=
 bif decide ((DF.length:Int)<2) then (some (AL,false)) else (bnd (BP DF 0) fun x1=>bnd (BP DF 1) fun x2=>bif !((wrap .i64 x1)==2||((wrap .i64 x1)==3||false)) then (some ((⟨AL.store,AL.devices,AL.needs,wrap .i64 x1,AL.load,x2,AL.order⟩:zM),false)) else (bnd (sub DF 2 (DF.length:Int)) fun l1=>bnd (yC (τ:=(zM × Bool) ⊕ List Int) (fun (s1:Int × List Int)=>bif decide (s1.1<(l1.length:Int)) then (bnd (BP l1 s1.1) fun x3=>bnd ((bif decide ((wrap .i64 x3)≥(AL.devices.length:Int)) then (some true) else (bnd (xU s1.2 (wrap .i64 x3)) fun r1=>some r1):Option Bool)) fun o3=>bif o3 then (some (.done (.inl ((⟨AL.store,AL.devices,AL.needs,wrap .i64 x1,AL.load,x2,s1.2⟩:zM),false)))) else (bnd (app 8 s1.2 [wrap .i64 x3]) fun l2=>some (.next (wrap .i64 (s1.1+1),l2)))) else (some (.done (.inr s1.2)))) (0,AL.order)) fun o1=>xL o1 fun o2=>some ((⟨AL.store,AL.devices,AL.needs,wrap .i64 x1,AL.load,x2,o2⟩:zM),true)))
theorem zBr [AP] {AL DF A1 c1 A2 c2 A3 c3 A4 c4 A5 c5 A6 c6 AZ BJ r} (h:tY AL DF=some r):
    BA Tryz.prog 66 [.pointer (some ⟨AZ,0,none⟩), .slice A6 DF.length c6] [.ro (AV zS A2 c2 AL.needs), .ro (AV yW A3 c3 AL.load.Have), .ro (AV AQ A4 c4 AL.load.Data), .ro (AV AQ A6 c6 DF), .ro (TS 0 [(2,some 315),(3,some 316)]), .res (Box AZ 144 (zL AL BJ A1 c1 A2 c2 A3 c3 A4 c4 A5 c5)), .res (yU (zT zC) 64 A1 c1 AL.devices), .res (zI zU 3 A5 c5 AL.order)] (fun v F=>∃ A7 c7 A8 c8 A9 c9 EC c10 EW c11,v= .bool r.2∧F= [.ro (AV zS A8 c8 r.1.needs), .ro (AV yW A9 c9 r.1.load.Have), .ro (AV AQ EC c10 r.1.load.Data), .res (Box AZ 144 (zL r.1 BJ A7 c7 A8 c8 A9 c9 EC c10 EW c11)), .res (yU (zT zC) 64 A7 c7 r.1.devices), .res (zI zU 3 EW c11 r.1.order)]):=by
 refine BA.intro Tryz.func66 O O O fun w R=>?_;refine .ab [0,1] O<|.seq<|.ab [0,1,10] O<|.cb h O (fun h=>?_) (fun h=>?_)
 ·refine .EK [4] [0,0,0] 1 O O ?_;cases h;exact .rv O O ⟨A1,c1,A2,c2,A3,c3,A4,c4,A5,c5,O,O⟩ (zk 6 4 [3,4,5] [4,4,4] 0 O)
 refine .sk<|.pr [0,1] O<|.seq<|.BI (iN [0,4,8,13,17,20,24,29,33,36,40,47,48,52,59] .nil) _ mixed (by kernel_rfl) (zl [0,0,0,0,0] 1 O)<|.yn 3 O<|.bd h fun x1 hx1 h=>.JZ (zm 3 O) hx1 fun b1 DY JA=>.AY (fun _ w=>Sat.JE JA (zm 3 O) hx1 w) ?_;have hc1:=fun w h=>Sat.JE JA (zm 3 O) hx1 ((fun (w:World) (h:Sat (.ro (AV zS A2 c2 AL.needs):: .ro (AV yW A3 c3 AL.load.Have):: .ro (AV AQ A4 c4 AL.load.Data):: .ro (AV AQ A6 c6 DF):: .ro (TS 0 [(2,some 315),(3,some 316)]):: .res (yU (zT zC) 64 A1 c1 AL.devices):: .res (zI zU 3 A5 c5 AL.order)::R) w)=>h) w h);refine .JC (Rd.SY (E:=AQ) JA hx1 O O O O O O O) O<|.JC (Rd.load DY 0 O (.head _) O O) O<|.yn 2 O<|.bd h fun x2 hx2 h=>.JZ (zm 4 O) hx2 fun b2 JD LD=>.AY (fun _ w=>Sat.JE LD (zm 4 O) hx2 w) ?_;have hc2:=fun w h=>Sat.JE LD (zm 4 O) hx2 (hc1 w h);refine .JC (Rd.SY (E:=AQ) LD hx2 O O O O O O O) O<|.JC (Rd.load JD 0 O (.head _) O O) O<|.yn 2 O<|.BV<|.sb 3 7 O<|.xk (zl [] 3 O)<|.yn 2 O<|.BV<|.sb 8 0 O<|.xk (zl [] 3 O)<|.CQ<|.AO<|.pf [0,1] [0] 2 O O<|.seq<|.seq<|.regionF mixed (by kernel_rfl)<|.DK (zm 5 O) fun gm1=>.ld 0 0 0 O<|.n 3 O<|.lb 3 2 O<|.OW O O O EO O O O O O (by rfl)<|.gq (r:=!((wrap .i64 x1)==2||((wrap .i64 x1)==3||false))) O O O (by kernel_rfl) O (.inl ⟨O,O⟩)<|.beq O<|.pf [0,1,30] [] 2 O O<|.cb h O (fun h=>?_) (fun h=>?_)
 ·refine .EK [4] [0,0,0,0] 1 O O ?_;cases h;exact .rv O O ⟨A1,c1,A2,c2,A3,c3,A4,c4,A5,c5,O,O⟩ (zk 6 4 [3,4,5] [0,4,4] 0 O)
 refine .sk<|.pr [0,1] O<|.seq<|.a 1 O<|.bd h fun l1 hl1 h=>.sub (E:=(CY AQ)) O O (zm 4 O) O O O O O O O hl1 fun A7 c7=>.bf [0,32,33,34] [0,0,0,0,0] 1 O O<|.bd h fun o1 hl1 h=>.ES 8 (fun (o2:List Int) (e2:Option Addr × Nat)=>[]) (fun o2 e2=>[.res (zI zU 3 e2.1 e2.2 o2), .res (Box AZ 144 [.pointer (kR AL.store BJ), .slice A1 AL.devices.length c1, .slice A2 AL.needs.length c2, .int .i64 (wrap .i64 x1), .int .i64 AL.load.Size, .int .i64 AL.load.Part, .slice A3 AL.load.Have.length c3, .slice A4 AL.load.Data.length c4, .int .u8 x2, .slice e2.1 o2.length e2.2]),2,3,4,5,6]) O O (fun o2=>o1= .inr o2) ?_ ?_
 ·refine .block<|.BM hl1 8 (fun (s1:Int × List Int) (e1:Option Addr × Nat)=>[0,32,33, .s 34 (.int .i64 s1.1)]) (fun s1 e1=>[.res (zI zU 3 e1.1 e1.2 s1.2),0, .res (Box AZ 144 [.pointer (kR AL.store BJ), .slice A1 AL.devices.length c1, .slice A2 AL.needs.length c2, .int .i64 (wrap .i64 x1), .int .i64 AL.load.Size, .int .i64 AL.load.Part, .slice A3 AL.load.Have.length c3, .slice A4 AL.load.Data.length c4, .int .u8 x2, .slice e1.1 s1.2.length e1.2]),2,3,4,5,6]) O O (A5,c5) (zb O) (zl [7] 0 O) ?_;rintro s1 ⟨A8,c8⟩ st1 hm1 hd1 h1;refine .ae O<|.seq<|.cb h1 O (fun h1=>?_) (fun h1=>?_)
  ·refine .sk<|.pr [0,32,33,34] O<|.seq<|.block<|.seq<|.region<|.bd h1 fun x3 hx3 h1=>.IB hx3 1 O fun b3 MP=>.ld MP 0 0 O<|.bf [0,6,32,33,34] [] 1 O O<|.seq<|.ab [0,6,7,32,33,34] O<|.seq<|.bd h1 fun o3 hj1 h1=>.cu 0 [0,6,32,33,34, .s 54 (.bool o3)] [] O O ?_ ?_
   ·refine .region<|.n 4 O<|.lb 1 2 O<|.n 3 O<|.gs 47 hj1 O (fun hj1=>?_) (fun hj1=>?_)
    ·cases hj1;exact .be O<|.hU O zw
    refine .n 3 O<|.BN O O<|.lb 9 2 O<|.n 1 O<|.BN O O<|.bd hj1 fun r1 hr1 hj1=>.TJ (fU hr1) zTm O O O O (mG.own (.head _) mG.nil) (fun _ _ h=>by rw [h.2]; exact True.intro) ?_;rintro _ _ ⟨rfl,rfl⟩;refine .nm 8 O ?_;cases hj1;exact .be O<|.hU O zw
   refine .cb h1 O (fun h1=>?_) (fun h1=>?_)
   ·refine .EK [4] [0] 1 O O ?_;cases h1;cases hd1 _ rfl
    have h:some _=some _:=h;cases h;exact .rv O O ⟨A1,c1,A2,c2,A3,c3,A4,c4,A8,c8,O,O⟩ (zk 6 4 [3,4,5] [1,5] 0 O)
   refine .sk<|.pr [0,6,32,33,34] O<|.region<|.n 4 O<|.lb 9 2 O<|.n 2 O<|.bS O fun g1=>.bd h1 fun l2 hl2 h1=>.app (E:=zU) hl2 O O O (.s .z) O O O O O O O O (iV (.head _) O O) O O fun EC c10=>.n 2 O<|.sb 9 3 O<|.done<|.BL<|.AO<|.pf [0,32,33,34] [0,0] 1 O O<|.region ?_;cases h1;exact .be O<|.ag (EC,c10) hm1 O (zl [1,1] 0 O)
  refine .xq O ?_;cases h1;cases hd1 _ rfl
  exact .AO<|.CZ s1.2 (A8,c8) O trivial (zl [0] 1 O)
 rintro o2 ⟨A9,c9⟩ ho;subst ho;have h:=JG h;refine .ae O ?_;cases h;exact .rv O O ⟨A1,c1,A2,c2,A3,c3,A4,c4,A9,c9,O,O⟩ (zk 6 4 [3,4,5] [1,5] 0 O)
def iU (CP:zN):Option zN:=
 bnd (zV CP.Data) fun r1=>some (⟨CP.Name,CP.Version,r1⟩:zN)
theorem aN {CP A1 c1 r} (h:iU CP=some r):
    BA Tryz.prog 130 [.agg (yO CP A1 c1).toArray] [.ro (AV AQ A1 c1 CP.Data)] (fun v F=>∃ A2 c2,v= .agg (yO r A2 c2).toArray∧F= [.res (zI AQ 5 A2 c2 r.Data)]):=by
 refine BA.intro Tryz.func130 O O O fun w R=>?_;refine .seq<|.region<|.box O O fun g1=>.alloc O O fun g2=>.b [1,2] O<|.a 1 O<|.lb 4 1 O<|.bd h fun r1 hr1 h=>.cr 4 [2] [] 0 (yN hr1) aJ O fun A2 c2=>.p O O<|.sb 4 2 O<|.bf [1,2] [0,0,0] 1 O O<|.seq<|.region<|.lb 0 0 O<|.sb 0 2 O<|.bf [2] [0] 1 O O ?_;cases h;exact .rt O Tryz.results130 (.cell O (.head _) O .nil) O ⟨A2,c2,O,O⟩ (zl [] 1 O)
def dW (AB:zB):Option zB:=
 bnd (iU AB.Slots.e0.AU) fun r1=>bnd (iU AB.Slots.e1.AU) fun r2=>some (⟨AB.Name,(⟨(⟨r1,AB.Slots.e0.Sum⟩:yA),(⟨r2,AB.Slots.e1.Sum⟩:yA)⟩:(tH yA)),AB.Active,AB.Running,AB.BK⟩:zB)
theorem zDs {AB A1 c1 A2 c2 r} (h:dW AB=some r):
    BA Tryz.prog 94 [.agg (zF AB A1 c1 A2 c2).toArray] [.ro (AV AQ A1 c1 AB.Slots.e0.AU.Data), .ro (AV AQ A2 c2 AB.Slots.e1.AU.Data)] (fun v F=>∃ A3 c3 A4 c4,v= .agg (zF r A3 c3 A4 c4).toArray∧F= [.res (zI AQ 5 A3 c3 r.Slots.e0.AU.Data), .res (zI AQ 5 A4 c4 r.Slots.e1.AU.Data)]):=by
 refine BA.intro Tryz.func94 O O O fun w R=>?_;refine .seq<|.region<|.box O O fun g1=>.alloc O O fun g2=>.b [1,2] O<|.seq<|.ae O<|.block<|.rounds 9<|.round<|.ae O<|.seq<|.EP O<|.sk<|.pr [1,2,4] O<|.seq<|.block<|.ab [1,2,3,4] O<|.region<|.n 5 O<|.lb 1 1 O<|.bd h fun r1 hr1 h=>.cr 5 [2] [] 0 (aN hr1) xh O fun A3 c3=>.n 3 O<|.sb 1 2 O<|.done<|.BL<|.AO<|.pf [1,2,4] [0,0,0] 1 O O<|.region<|.be O<|.round<|.pr [1,2,4] O<|.ae O<|.seq<|.EP O<|.sk<|.pr [1,2,4] O<|.seq<|.block<|.ab [1,2,3,4] O<|.region<|.n 5 O<|.lb 7 0 O<|.bd h fun r2 hr2 h=>.cr 5 [3] [] 0 (aN hr2) xh O fun A4 c4=>.n 3 O<|.sb 7 1 O<|.done<|.BL<|.AO<|.pf [1,2,4] [0,0,0,0] 1 O O<|.region<|.be O<|.round<|.pr [1,2,4] O<|.ae O<|.seq<|.FU O<|.xq O<|.AO<|.pr [1,2] O<|.seq<|.region<|.lb 0 0 O<|.sb 0 3 O<|.bf [2] [0] 1 O O ?_;cases h;exact .rt O Tryz.results94 (.cell O (.head _) O .nil) O ⟨A3,c3,A4,c4,O,O⟩ (zl [2] 1 O)
def lY [AP] (AB:zB):Option zB:=
 bnd (sF AB) fun r1=>bif !r1 then (some (⟨⟨#[]⟩,(⟨(⟨(⟨⟨#[]⟩,(⟨0,0,0⟩:zQ), []⟩:zN),0⟩:yA),(⟨(⟨⟨#[]⟩,(⟨0,0,0⟩:zQ), []⟩:zN),0⟩:yA)⟩:(tH yA)),0,0,false⟩:zB)) else (bnd (dW AB) fun r2=>bif r2.BK then (some (⟨r2.Name,r2.Slots,r2.Active,wrap .i64 (1 - r2.Active),false⟩:zB)) else (some (⟨r2.Name,r2.Slots,r2.Active,r2.Active,r2.BK⟩:zB)))
theorem zGB [AP] {AB A1 c1 A2 c2 r} (h:lY AB=some r):
    BA Tryz.prog 35 [.agg (zF AB A1 c1 A2 c2).toArray] [.ro (AV AQ A1 c1 AB.Slots.e0.AU.Data), .ro (AV AQ A2 c2 AB.Slots.e1.AU.Data)] (fun v F=>∃ A3 c3 A4 c4,v= .agg (zF r A3 c3 A4 c4).toArray∧F= [.res (zI AQ 5 A3 c3 r.Slots.e0.AU.Data), .res (zI AQ 5 A4 c4 r.Slots.e1.AU.Data)]):=by
 refine BA.intro Tryz.func35 O O O fun w R=>?_;refine .seq<|.region<|.box O O fun g1=>.alloc O O fun g2=>.b [1,2] O<|.seq<|.seq<|.region<|.lb 0 1 O<|.bd h fun r1 hr1 h=>.cv [2,3] (nK hr1) xw O<|.b [1,2,6] O<|.cb h O (fun h=>?_) (fun h=>?_)
 ·refine .a 1 O<|.sb 0 0 O<|.bf [2] [0] 3 O O<|.AY (fun _ w=>w.HY AQ 5)<|.AY (fun _ w=>w.HY AQ 5) ?_;cases h;exact .rt O Tryz.results35 (.cell O MQ O .nil) O ⟨none,0,none,0,O,O⟩ (zl [1,0] 1 O)
 refine .sk<|.pr [1,2] O<|.seq<|.region<|.lb 0 1 O<|.bd h fun r2 hr2 h=>.ct 6 [2,3] [] 0 (zDs hr2) jd O fun A3 c3 A4 c4=>.alloc O O fun g3=>.sb 0 0 O<|.bf [2,3] [0,0,0,0] 3 O O<|.a 1 O<|.lb 13 0 O<|.p O O<|.sb 14 0 O<|.b [2,3] O<|.seq<|.a 1 O<|.lb 15 0 O<|.b [2,3,14] O<|.cb h O (fun h=>?_) (fun h=>?_)
 ·refine .region<|.p O O<|.lb 13 0 O<|.n 2 O<|.sb 14 0 O<|.p O O<|.sb 15 0 O<|.b [2,3] O<|.seq<|.region<|.lb 0 0 O<|.sb 0 3 O<|.bf [2] [0] 1 O O ?_;cases h;exact .rt O Tryz.results35 (.cell O (.head _) O .nil) O ⟨A3,c3,A4,c4,O,O⟩ (zl [] 1 O)
 refine .sk<|.pr [2,3] O<|.seq<|.region<|.lb 0 0 O<|.sb 0 3 O<|.bf [2] [0] 1 O O ?_;cases h;exact .rt O Tryz.results35 (.cell O (.head _) O .nil) O ⟨A3,c3,A4,c4,O,O⟩ (zl [] 1 O)
theorem zQW:BX Tryz.prog 146:=en Tryz.func146 (by kernel_rfl)
def vY (AL:zM) (EI:Int):Option Bool:=
 bnd (BP AL.devices EI) fun x1=>bnd (WJ .u8 AL.before EI) fun q1=>some (x1.Active != (wrap .i64 (sN .u8 q1 1)))
theorem kJ {AL EI A1 c1 A2 c2 A3 c3 A4 c4 A5 c5 AZ BJ r} (h:vY AL EI=some r):
    BA Tryz.prog 146 [.pointer (some ⟨AZ,0,none⟩), .int .i64 EI] [.ro (AV zS A2 c2 AL.needs), .ro (AV yW A3 c3 AL.load.Have), .ro (AV AQ A4 c4 AL.load.Data), .ro (AV zU A5 c5 AL.order), .res (Box AZ 144 (zL AL BJ A1 c1 A2 c2 A3 c3 A4 c4 A5 c5)), .res (yU (zT zC) 64 A1 c1 AL.devices)] (fun v F=>v= .bool r∧F= [.res (Box AZ 144 (zL AL BJ A1 c1 A2 c2 A3 c3 A4 c4 A5 c5)), .res (yU (zT zC) 64 A1 c1 AL.devices)]):=by
 refine BA.intro Tryz.func146 O O O fun w R=>?_;refine .ab [0,1] O<|.seq<|.regionF mixed (by kernel_rfl)<|.n 3 O<|.lb 1 4 O<|.p O O<|.bd h fun x1 hx1 h=>.TR hx1 O O O (zm 5 O) O O O O O fun g1 hA=>?_;subst hA;refine .p O O<|.OI (ls:=zC) 13 (fun ex=>.int .i64 x1.Active) hx1 O O (zm 5 O) O (fun _=>O) fun FC=>?_;obtain ⟨⟨A6,c6⟩,⟨⟨A7,c7⟩,_⟩⟩:=FC;refine .nm 8 O<|.n 3 O<|.lb 8 6 O<|.p O O<|.bd h fun q1 hq1 h=>.shr O O O hq1<|.beq O<|.pf [4] [] 2 O O ?_;cases h;exact .rv O O ⟨O,O⟩ (zl [] 4 O)
theorem D5:BX Tryz.prog 225:=en Tryz.func225 (by kernel_rfl)
def vX [AP] (AX:(List Int)) (CV:zM):Option Int:=
 bnd (yC (τ:=Int ⊕ Unit) (fun (s1:Int)=>bif decide (s1<(AX.length:Int)) then (bnd (BP AX s1) fun x1=>bnd (vY CV x1) fun r1=>bif r1 then (some (.done (.inl s1))) else (some (.next (wrap .i64 (s1+1))))) else (some (.done (.inr ())))) 0) fun o1=>xL o1 fun o2=>some (-1)
theorem kE [AP] {AX CV A1 c1 A2 c2 A3 c3 A4 c4 A5 c5 A6 c6 AZ BJ r} (h:vX AX CV=some r):
    BA Tryz.prog 225 [.slice A1 AX.length c1, .func (.func 146) #[.pointer (some ⟨AZ,0,none⟩)] #[]] [.ro (AV zU A1 c1 AX), .ro (AV zS A3 c3 CV.needs), .ro (AV yW A4 c4 CV.load.Have), .ro (AV AQ A5 c5 CV.load.Data), .ro (AV zU A6 c6 CV.order), .res (Box AZ 144 (zL CV BJ A2 c2 A3 c3 A4 c4 A5 c5 A6 c6)), .res (yU (zT zC) 64 A2 c2 CV.devices)] (fun v F=>v= .int .i64 r∧F= [.res (Box AZ 144 (zL CV BJ A2 c2 A3 c3 A4 c4 A5 c5 A6 c6)), .res (yU (zT zC) 64 A2 c2 CV.devices)]):=by
 refine BA.intro Tryz.func225 O O O fun w R=>?_;refine .ab [0,1] O<|.seq<|.ab [0,1,7,8] O<|.bd h fun o1 hl1 h=>.ES 1 (fun (o2:Unit) (e2:Unit)=>[]) (fun o2 e2=>[]) O O (fun o2=>o1= .inr o2) ?_ ?_
 ·refine .block<|.BM hl1 0 (fun (s1:Int) (e1:Unit)=>[0,1,7, .s 8 (.int .i64 s1)]) (fun s1 e1=>[]) O O () (zb O) (fun _ w=>w) ?_;rintro s1 e1 st1 hm1 hd1 h1;refine .ae O<|.seq<|.cb h1 O (fun h1=>?_) (fun h1=>?_)
  ·refine .sk<|.pr [0,1,7,8] O<|.seq<|.block<|.ab [0,1,5,7,8] O<|.a 3 O<|.bd h1 fun x1 hx1 h1=>.IB hx1 0 O fun b1 DY=>.ld DY 0 0 O<|.bd h1 fun r1 hr1 h1=>.ZF (us:= [.pointer (some ⟨AZ,0,none⟩)]) (args:= [.int .i64 x1]) (kJ (AZ:=AZ) hr1) zQW O O O (zd [4,5,6,7] [6,6] 0 O) ?_;rintro _ _ ⟨rfl,rfl⟩;refine .nm 8 O<|.bf [0,1,5,7,8,16] [0,0] 1 O O<|.cb h1 O (fun h1=>?_) (fun h1=>?_)
   ·refine .EK [4] [0,0] 1 O O ?_;cases h1;cases hd1 _ rfl
    have h:some _=some _:=h;cases h;exact .rv O O ⟨O,O⟩ (zl [0,0] 4 O)
   refine .skip<|.BL<|.AO<|.pr [0,1,7,8] O<|.region ?_;cases h1;exact .be O<|.ag () hm1 O (zl [2,2,2,2,2] 0 O)
  refine .xq O ?_;cases h1;cases hd1 _ rfl
  exact .AO<|.CZ () () O trivial (zl [] 1 O)
 rintro o2 e2 ho;subst ho;have h:=JG h;refine .ae O ?_;cases h;exact .rv O O ⟨O,O⟩ (zl [] 4 O)
theorem zQE:BX Tryz.prog 147:=en Tryz.func147 (by kernel_rfl)
def xZ [AP] (AX:(List Int)) (CV:zM):Option Bool:=
 bnd (vX AX CV) fun r1=>some (decide (r1≥0))
theorem mF [AP] {AX CV A1 c1 A2 c2 A3 c3 A4 c4 A5 c5 A6 c6 AZ BJ r} (h:xZ AX CV=some r):
    BA Tryz.prog 147 [.slice A1 AX.length c1, .func (.func 146) #[.pointer (some ⟨AZ,0,none⟩)] #[]] [.ro (AV zU A1 c1 AX), .ro (AV zS A3 c3 CV.needs), .ro (AV yW A4 c4 CV.load.Have), .ro (AV AQ A5 c5 CV.load.Data), .ro (AV zU A6 c6 CV.order), .res (Box AZ 144 (zL CV BJ A2 c2 A3 c3 A4 c4 A5 c5 A6 c6)), .res (yU (zT zC) 64 A2 c2 CV.devices)] (fun v F=>v= .bool r∧F= [.res (Box AZ 144 (zL CV BJ A2 c2 A3 c3 A4 c4 A5 c5 A6 c6)), .res (yU (zT zC) 64 A2 c2 CV.devices)]):=by
 refine BA.intro Tryz.func147 O O O fun w R=>?_;refine .ab [0,1] O<|.a 2 O<|.bd h fun r1 hr1 h=>.cq 7 [2,3,4,5,6] [5,5] 0 (kE (AZ:=AZ) hr1) D5 O<|.bf [4] [0,0] 1 O O ?_;cases h;exact .rv O O ⟨O,O⟩ (zl [0,0] 4 O)
theorem zTf:BX Tryz.prog 188:=en Tryz.func188 (by kernel_rfl)
def qT (AB:zA):Option Bool:=
 some AB.down
theorem zBq {AB A1 c1 A2 c2 AZ r} (h:qT AB=some r):
    BA Tryz.prog 188 [.pointer (some ⟨AZ,0,none⟩)] [.res (Box AZ 131 (zG AB A1 c1 A2 c2)), .res (zI AQ 5 A1 c1 AB.bytes), .res (zI zU 3 A2 c2 AB.BD)] (fun v F=>v= .bool r∧F= [.res (Box AZ 131 (zG AB A1 c1 A2 c2)), .res (zI AQ 5 A1 c1 AB.bytes), .res (zI zU 3 A2 c2 AB.BD)]):=by
 unfold qT at h
 refine BA.intro Tryz.func188 O O O fun w R=>?_;refine .ab [0] O<|.a 3 O<|.lb 6 0 O<|.b [2] O ?_;cases h;exact .rv O O ⟨O,O⟩ zw
theorem zSX:BX Tryz.prog 189:=en Tryz.func189 (by kernel_rfl)
def nM [AP] (BO:(List zD)):Option Int:=
 bif decide ((BO.length:Int)>32) then (some 3) else (bnd (yC (τ:=Int ⊕ ((List (Int × Bool)))) (fun (s1:Int × (List (Int × Bool)))=>bif decide (s1.1<(BO.length:Int)) then (bnd (BP BO s1.1) fun x1=>bnd ((bif decide ((x1.Value.length:Int)>28) then (some true) else (bif x1.Delete then (some (decide ((x1.Value.length:Int)>0))) else (some false)):Option Bool)) fun o3=>bif o3 then (some (.done (.inl 1))) else (bif (vW (yH .u8).eq s1.2 x1.Key).getD false then (some (.done (.inl 7))) else (some (.next (wrap .i64 (s1.1+1),nX (yH .u8).eq s1.2 x1.Key true))))) else (some (.done (.inr s1.2)))) (0, [])) fun o1=>xL o1 fun o2=>some 0)
theorem zDZ [AP] {BO A1 c1 r} (h:nM BO=some r):
    BA Tryz.prog 189 [.slice A1 BO.length c1] [.ro (Sl (zT zJ) A1 c1 BO)] (Val (.int .i64 r)):=by
 refine BA.intro Tryz.func189 O O O fun w R=>?_;refine .ab [0] O<|.seq<|.ab [0,8] O<|.cb h O (fun h=>?_) (fun h=>?_)
 ·refine .EK [2] [] 1 O O ?_;cases h;exact .rv O O ⟨O,O⟩ zw
 refine .sk<|.pr [0] O<|.seq<|.region<|.makeMap (K:=(yH .u8)) (vv:=(fun x=>.bool x)) O fun g1=>.b [0,3] O<|.seq<|.ab [3,10,11,12] O<|.bd h fun o1 hl1 h=>.ES 2 (fun (o2:(List (Int × Bool))) (e2:Unit)=>[]) (fun o2 e2=>[]) O O (fun o2=>o1= .inr o2) ?_ ?_
 ·refine .block<|.BM hl1 1 (fun (s1:Int × (List (Int × Bool))) (e1:Unit)=>[3,10,11, .s 12 (.int .i64 s1.1)]) (fun s1 e1=>[.res (nH (yH .u8) (fun x=>.bool x) g1 s1.2)]) O O () (zb O) (fun _ w=>w) ?_;rintro s1 e1 st1 hm1 hd1 h1;refine .ae O<|.seq<|.cb h1 O (fun h1=>?_) (fun h1=>?_)
  ·refine .sk<|.pr [3,10,11,12] O<|.seq<|.block<|.seq<|.region<|.bd h1 fun x1 hx1 h1=>.KY hx1 1 O fun b1 DY FC=>?_;obtain ⟨⟨A2,c2⟩,_⟩:=FC;refine .nm 4 O<|.ld DY 0 0 O<|.alloc O O fun g2=>.sb 0 0 O<|.bf [3,5,10,11,12] [0] 1 O O<|.seq<|.block<|.seq<|.bd h1 fun o3 hj1 h1=>.cu 0 [3,5,10,11,12, .s 16 (.bool o3)] [] O O ?_ ?_
   ·refine .region<|.p O O<|.lb 1 0 O<|.n 3 O<|.gs 21 hj1 O (fun hj1=>?_) (fun hj1=>?_)
    ·cases hj1;exact .be O<|.hU O zw
    refine .n 1 O<|.BN O O<|.lb 2 0 O<|.n 1 O<|.gs 24 hj1 O (fun hj1=>?_) (fun hj1=>?_)
    ·refine .n 1 O<|.BN O O<|.lb 1 0 O ?_;cases hj1;exact .be O<|.hU O zw
    cases hj1;exact .be O<|.hU O zw
   refine .cb h1 O (fun h1=>?_) (fun h1=>?_)
   ·refine .EK [2] [] 4 O O ?_;cases h1;cases hd1 _ rfl
    have h:some _=some _:=h;cases h;exact .rv O O ⟨O,O⟩ zw
   refine .a 2 O<|.lb 0 0 O<|.lookup (K:=(yH .u8)) (vv:=(fun x=>.bool x)) (u:=.bool ((vW (yH .u8).eq s1.2 x1.Key).getD false)) false x1.Key O O O (zm 2 O) O O O O O O O<|.b [3,5,10,11,12,31] O<|.cb h1 O (fun h1=>?_) (fun h1=>?_)
   ·refine .EK [2] [] 4 O O ?_;cases h1;cases hd1 _ rfl
    have h:some _=some _:=h;cases h;exact .rv O O ⟨O,O⟩ zw
   refine .skip<|.BL<|.AO<|.pr [3,5,10,11,12] O<|.region<|.n 2 O<|.lb 0 0 O<|.mapUpdate (K:=(yH .u8)) (vv:=(fun x=>.bool x)) x1.Key true O O O (CS 2 O) O O O O<|.done<|.BL<|.AO<|.pf [3,10,11,12] [0] 2 O O<|.region ?_;cases h1;exact .be O<|.ag () hm1 O zw
  refine .xq O ?_;cases h1;cases hd1 _ rfl
  exact .AO<|.CZ s1.2 () O trivial (zl [] 2 O)
 rintro o2 e2 ho;subst ho;have h:=JG h;refine .ae O ?_;cases h;exact .rv O O ⟨O,O⟩ zw
theorem zQF:BX Tryz.prog 190:=en Tryz.func190 (by kernel_rfl)
def qC [AP] (BO:(List zD)):Option (List Int):=
 bnd (yC (τ:=List Int) (fun (s1:List Int × Int)=>bif decide (s1.2<(BO.length:Int)) then (bnd (BP BO s1.2) fun x1=>bif x1.Delete then (bnd (app 1 s1.1 [x1.Key,128]) fun l1=>some (.next (l1,wrap .i64 (s1.2+1)))) else (bnd (app 1 s1.1 [x1.Key,wrap .u8 (x1.Value.length:Int)]) fun l2=>bnd (app 1 l2 x1.Value) fun l3=>some (.next (l3,wrap .i64 (s1.2+1))))) else (some (.done s1.1))) ([wrap .u8 (BO.length:Int)],0)) fun o1=>bnd (app 1 o1 [0]) fun l4=>some l4
theorem dC [AP] {BO A1 c1 r} (h:qC BO=some r):
    BA Tryz.prog 190 [.slice A1 BO.length c1] [.ro (Sl (zT zJ) A1 c1 BO)] (fun v F=>∃ A2 c2,v= .slice A2 r.length c2∧F= [.res (zI AQ 5 A2 c2 r)]):=by
 refine BA.intro Tryz.func190 O O O fun w R=>?_;refine .ab [0] O<|.a 3 O<|.bS O fun g1=>.b [0,3] O<|.seq<|.ab [3,10,11,12] O<|.AY (fun _ w=>w.IL (E:=AQ) (e:=5) [wrap .u8 (BO.length:Int)] O O)<|.bd h fun o1 hl1 h=>.DV 2 (fun (e2:Option Addr × Nat)=>[.s 3 (.slice e2.1 o1.length e2.2)]) (fun e2=>[.res (zI AQ 5 e2.1 e2.2 o1)]) O O ?_ ?_
 ·refine .block<|.BM hl1 1 (fun (s1:List Int × Int) (e1:Option Addr × Nat)=>[.s 3 (.slice e1.1 s1.1.length e1.2),10,11, .s 12 (.int .i64 s1.2)]) (fun s1 e1=>[.res (zI AQ 5 e1.1 e1.2 s1.1)]) O O ((some ⟨g1,0,none⟩),([wrap .u8 (BO.length:Int)]:List Int).length) (zb O) (fun _ w=>w) ?_;rintro s1 ⟨A2,c2⟩ st1 hm1 hd1 h1;refine .ae O<|.seq<|.cb h1 O (fun h1=>?_) (fun h1=>?_)
  ·refine .sk<|.pr [3,10,11,12] O<|.seq<|.block<|.seq<|.region<|.bd h1 fun x1 hx1 h1=>.KY hx1 1 O fun b1 DY FC=>?_;obtain ⟨⟨A4,c4⟩,_⟩:=FC;refine .nm 4 O<|.ld DY 0 0 O<|.alloc O O fun g2=>.sb 0 0 O<|.bf [3,5,10,11,12] [0] 1 O O<|.a 1 O<|.lb 2 0 O<|.b [3,5,10,11,12,17] O<|.cb h1 O (fun h1=>?_) (fun h1=>?_)
   ·refine .region<|.n 2 O<|.lb 0 0 O<|.bS O fun g3=>.bd h1 fun l1 hl1 h1=>.app (E:=AQ) hl1 O O O (CS 3 O) O O O O O O O O (iV (.head _) O O) O O fun A5 c5=>.p O O<|.done<|.BL<|.AO<|.pf [3,10,11,12] [0] 3 O O<|.region ?_;cases h1;exact .be O<|.ag (A5,c5) hm1 O zw
   refine .BI (iN [0,4,9,12,17,20,24,36,40,31,35,47,48] .nil) _ mixed (by kernel_rfl) (zl [0,0] 1 O)<|.yn 2 O<|.yx 0 0 O<|.yn 1 O<|.yx 1 0 O<|.yn 3 O<|.yl 1 0 O<|.BV<|.bS O fun g4=>.xk (zl [1,1] 2 O)<|.BV<|.bd h1 fun l2 hl2 h1=>.app (E:=AQ) hl2 O O O (CS 3 O) O O O O O O O O (iV (.head _) O O) O O fun A6 c6=>.xk (zl [] 2 O)<|.BV<|.bd h1 fun l3 hl3 h1=>.app (E:=AQ) hl3 O O O .z O O O O O O O O (gU XI) O O fun A7 c7=>.xk (zl [] 2 O)<|.yn 1 O<|.CQ<|.BL<|.AO<|.pf [3,10,11,12] [0] 3 O O<|.region ?_;cases h1;exact .be O<|.ag (A7,c7) hm1 O zw
  refine .xq O ?_;cases h1;cases hd1 _ rfl
  exact .AO<|.hE (A2,c2) O (zl [0] 1 O)
 rintro ⟨A3,c3⟩;refine .a 1 O<|.bS O fun g5=>.bd h fun l4 hl4 h=>.app (E:=AQ) hl4 O O O (.s .z) O O O O O O O O (iV (.head _) O O) O O fun A8 c8=>.bf [2] [0] 1 O O ?_;cases h;exact .rv O O ⟨A8,c8,O,O⟩ zw
theorem zQp:BX Tryz.prog 239:=en Tryz.func239 (by kernel_rfl)
def wV (AB:zA):Option (zA × Bool):=
 bif decide (AB.left>0) then (some ((⟨AB.size,AB.bytes,AB.BD,wrap .i64 (AB.steps+1),wrap .i64 (AB.left - 1),AB.BQ,((wrap .i64 (AB.left - 1))==0)⟩:zA),((wrap .i64 (AB.left - 1))==0))) else (some ((⟨AB.size,AB.bytes,AB.BD,wrap .i64 (AB.steps+1),AB.left,AB.BQ,AB.down⟩:zA),AB.down))
theorem gD {AB A1 c1 A2 c2 AZ r} (h:wV AB=some r):
    BA Tryz.prog 239 [.pointer (some ⟨AZ,0,none⟩)] [.res (Box AZ 131 (zG AB A1 c1 A2 c2)), .res (zI AQ 5 A1 c1 AB.bytes), .res (zI zU 3 A2 c2 AB.BD)] (fun v F=>∃ A3 c3 A4 c4,v= .bool r.2∧F= [.res (Box AZ 131 (zG r.1 A3 c3 A4 c4)), .res (zI AQ 5 A3 c3 r.1.bytes), .res (zI zU 3 A4 c4 r.1.BD)]):=by
 refine BA.intro Tryz.func239 O O O fun w R=>?_;refine .ab [0] O<|.a 3 O<|.lb 3 0 O<|.n 3 O<|.sb 3 0 O<|.b [0] O<|.seq<|.a 3 O<|.lb 4 0 O<|.b [0,14] O<|.cb h O (fun h=>?_) (fun h=>?_)
 ·refine .a 3 O<|.lb 4 0 O<|.n 3 O<|.sb 4 0 O<|.b [0] O<|.region<|.n 4 O<|.lb 4 0 O<|.n 3 O<|.sb 6 0 O<|.b [0] O<|.a 3 O<|.lb 6 0 O<|.b [2] O ?_;cases h;exact .rv O O ⟨A1,c1,A2,c2,O,O⟩ zw
 refine .sk<|.pr [0] O<|.a 3 O<|.lb 6 0 O<|.b [2] O ?_;cases h;exact .rv O O ⟨A1,c1,A2,c2,O,O⟩ zw
theorem Rq:BX Tryz.prog 191:=en Tryz.func191 (by kernel_rfl)
def wD [AP] (AB:zA) (CW:Int) (FN:(List Int)):Option (zA × Int):=
 bif AB.down then (some (AB,10)) else (bnd (uO AB CW (FN.length:Int)) fun r1=>bif !r1 then (some (AB,2)) else (bnd (yC (τ:=(zA × Int) ⊕ zA) (fun (s1:zA × Int)=>bif decide (s1.2<(FN.length:Int)) then (bnd (BP FN s1.2) fun x1=>bnd (wV s1.1) fun r2=>bif r2.2 then (bnd (BP r2.1.bytes (wrap .i64 (CW+s1.2))) fun x2=>bnd (BP r2.1.bytes (wrap .i64 (CW+s1.2))) fun x3=>bnd (BP r2.1.bytes (wrap .i64 (CW+s1.2))) fun x4=>bnd (rJ r2.1.bytes (wrap .i64 (CW+s1.2)) (sN .u8 x3 (FK .u8 x1 r2.1.BQ))) fun l1=>some (.done (.inl ((⟨r2.1.size,l1,r2.1.BD,r2.1.steps,r2.1.left,r2.1.BQ,r2.1.down⟩:zA),10)))) else (bnd (BP r2.1.bytes (wrap .i64 (CW+s1.2))) fun x5=>bnd (rJ r2.1.bytes (wrap .i64 (CW+s1.2)) (sN .u8 x5 x1)) fun l2=>some (.next ((⟨r2.1.size,l2,r2.1.BD,r2.1.steps,r2.1.left,r2.1.BQ,r2.1.down⟩:zA),wrap .i64 (s1.2+1))))) else (some (.done (.inr s1.1)))) (AB,0)) fun o1=>xL o1 fun o2=>some (o2,0)))
theorem sG [AP] {AB CW FN A1 c1 A2 c2 A3 c3 AZ r} (h:wD AB CW FN=some r):
    BA Tryz.prog 191 [.pointer (some ⟨AZ,0,none⟩), .int .i64 CW, .slice A3 FN.length c3] [.ro (AV AQ A3 c3 FN), .res (Box AZ 131 (zG AB A1 c1 A2 c2)), .res (zI AQ 5 A1 c1 AB.bytes), .res (zI zU 3 A2 c2 AB.BD)] (fun v F=>∃ A4 c4 A5 c5,v= .int .i64 r.2∧F= [.res (Box AZ 131 (zG r.1 A4 c4 A5 c5)), .res (zI AQ 5 A4 c4 r.1.bytes), .res (zI zU 3 A5 c5 r.1.BD)]):=by
 refine BA.intro Tryz.func191 O O O fun w R=>?_;refine .ab [0,1,2] O<|.seq<|.block<|.a 3 O<|.lb 6 1 O<|.b [0,1,2,9] O<|.cb h O (fun h=>?_) (fun h=>?_)
 ·refine .EK [6] [] 1 O O ?_;cases h;exact .rv O O ⟨A1,c1,A2,c2,O,O⟩ zw
 refine .a 4 O<|.bd h fun r1 hr1 h=>.cq 4 [] [1,1,1] 0 (jA hr1) zPy O<|.b [0,1,2,14] O<|.cb h O (fun h=>?_) (fun h=>?_)
 ·refine .EK [6] [0,0,0] 1 O O ?_;cases h;exact .rv O O ⟨A1,c1,A2,c2,O,O⟩ zw
 refine .skip<|.BL<|.AO<|.pr [0,1,2] O<|.seq<|.ab [0,1,21,22,23] O<|.bd h fun o1 hl1 h=>.ES 4 (fun (o2:zA) (e2:Option Addr × Nat × Option Addr × Nat)=>[]) (fun o2 e2=>[.res (zI zU 3 e2.2.2.1 e2.2.2.2 o2.BD), .res (zI AQ 5 e2.1 e2.2.1 o2.bytes), .res (Box AZ 131 (zG o2 e2.1 e2.2.1 e2.2.2.1 e2.2.2.2))]) O O (fun o2=>o1= .inr o2) ?_ ?_
 ·refine .block<|.BM hl1 3 (fun (s1:zA × Int) (e1:Option Addr × Nat × Option Addr × Nat)=>[0,1,21,22, .s 23 (.int .i64 s1.2)]) (fun s1 e1=>[.res (zI zU 3 e1.2.2.1 e1.2.2.2 s1.1.BD), .res (zI AQ 5 e1.1 e1.2.1 s1.1.bytes), .res (Box AZ 131 (zG s1.1 e1.1 e1.2.1 e1.2.2.1 e1.2.2.2))]) O O (A1,c1,A2,c2) (zb O) (zl [2,1] 0 O) ?_;rintro s1 ⟨A4,c4,A5,c5⟩ st1 hm1 hd1 h1;refine .ae O<|.seq<|.cb h1 O (fun h1=>?_) (fun h1=>?_)
  ·refine .sk<|.pr [0,1,21,22,23] O<|.seq<|.block<|.a 1 O<|.bd h1 fun x1 hx1 h1=>.IB hx1 3 O fun b1 DY=>.ld DY 0 0 O<|.bf [0,1,7,8,21,22,23] [] 1 O O<|.seq<|.a 1 O<|.bd h1 fun r2 hr2 h1=>.ct 4 [] [2,1] 0 (gD hr2) zQp O fun A8 c8 A9 c9=>.b [0,1,7,8,21,22,23,29] O<|.cb h1 O (fun h1=>?_) (fun h1=>?_)
   ·refine .seq<|.bd h1 fun x2 hx2 h1=>.QE EO hx2 fun g1 hA=>?_;subst hA;refine .BI (iN [0,4,8,13,16,20,24,29,33,36,40,44,48,53,56,60,65,71] .nil) _ mixed (by kernel_rfl) (zl [] 2 O)<|.yn 3 O<|.yx 1 0 O<|.yn 3 O<|.bd h1 fun x3 hx3 h1=>.JC (Rd.TA (E:=AQ) hx3 O O O O O O O) O<|.JC (Rd.MJ 0 hx3 O EO O O) O<|.yn 4 O<|.yx 5 0 O<|.yn 2 O<|.bd h1 fun x4 hx4 h1=>.JC (Rd.TA (E:=AQ) hx4 O O O O O O O) O<|.BV<|.bd h1 fun l1 hl1 h1=>.TB 0 hx4 hl1 O O (.s .z) O O O O O ?_;refine .ss 33 (wY hl1)<|.AY (F':=.res (zI AQ 5 (some ⟨g1,0,none⟩) c8 l1):: .res (Box AZ 131 [.int .i64 r2.1.size, .slice (some ⟨g1,0,none⟩) l1.length c8, .slice A9 r2.1.BD.length c9, .int .i64 r2.1.steps, .int .i64 r2.1.left, .int .u8 r2.1.BQ, .bool r2.1.down]):: .res (zI zU 3 A9 c9 r2.1.BD):: .ro (AV AQ A3 c3 FN)::R) (fun _ w=>by rw [sV hl1]; exact w)<|.xk (zl [] 2 O)<|.CQ<|.AO<|.pf [] [0,0,0] 1 O O<|.ae O ?_;cases h1;cases hd1 _ rfl
    have h:some _=some _:=h;cases h;exact .rv O O ⟨(some ⟨g1,0,none⟩),c8,A9,c9,O,O⟩ (zl [1] 0 O)
   refine .sk<|.pr [0,1,7,8,21,22,23] O<|.region<|.n 3 O<|.lb 1 0 O<|.n 3 O<|.bd h1 fun x5 hx5 h1=>.PW hx5 1 O fun g4 hA=>?_;subst hA;refine .MJ 0 hx5 O O EO O O<|.n 2 O<|.PW hx5 1 O fun g5 hA=>?_;cases hA;refine .bd h1 fun l2 hl2 h1=>.TB 0 hx5 hl2 O O (.s .z) O O O O O ?_;refine .ss 50 (wY hl2)<|.AY (F':=.res (zI AQ 5 (some ⟨g4,0,none⟩) c8 l2):: .res (Box AZ 131 [.int .i64 r2.1.size, .slice (some ⟨g4,0,none⟩) l2.length c8, .slice A9 r2.1.BD.length c9, .int .i64 r2.1.steps, .int .i64 r2.1.left, .int .u8 r2.1.BQ, .bool r2.1.down]):: .res (zI zU 3 A9 c9 r2.1.BD):: .ro (AV AQ A3 c3 FN)::R) (fun _ w=>by rw [sV hl2]; exact w)<|.done<|.BL<|.AO<|.pr [0,1,21,22,23] O<|.region ?_;cases h1;exact .be O<|.ag ((some ⟨g4,0,none⟩),c8,A9,c9) hm1 O (zl [2] 0 O)
  refine .xq O ?_;cases h1;cases hd1 _ rfl
  exact .AO<|.CZ s1.1 (A4,c4,A5,c5) O trivial (zl [0,0,0] 1 O)
 rintro o2 ⟨A6,c6,A7,c7⟩ ho;subst ho;have h:=JG h;refine .ae O ?_;cases h;exact .rv O O ⟨A6,c6,A7,c7,O,O⟩ (zl [2,1] 0 O)
theorem zTB:BX Tryz.prog 240:=en Tryz.func240 (by kernel_rfl)
def rU [AP] (AB:zA) (EJ:Int):Option (zA × Int):=
 bif AB.down then (some (AB,10)) else (bnd ((bif decide (EJ<0) then (some true) else (some (decide (EJ≥(AB.BD.length:Int)))):Option Bool)) fun o1=>bif o1 then (some (AB,2)) else (bnd (BP AB.BD EJ) fun x1=>bnd (rJ AB.BD EJ (wrap .i64 (x1+1))) fun l1=>bnd (wV (⟨AB.size,AB.bytes,l1,AB.steps,AB.left,AB.BQ,AB.down⟩:zA)) fun r1=>bnd ((bif r1.2 then (some r1.1.BQ) else (some 255):Option Int)) fun o2=>bnd (tD r1.1.bytes.length (wrap .i64 (EJ*r1.1.size)) (wrap .i64 ((wrap .i64 (EJ+1))*r1.1.size))) fun n1=>bnd (yC (τ:=zA) (fun (s1:zA × Int)=>bif decide (s1.2<(n1:Int)) then (bnd (gM s1.1.bytes (Int.toNat (wrap .i64 (EJ*r1.1.size))) n1 s1.2) fun x2=>bnd (gM s1.1.bytes (Int.toNat (wrap .i64 (EJ*r1.1.size))) n1 s1.2) fun x3=>bnd (rJ s1.1.bytes (((Int.toNat (wrap .i64 (EJ*r1.1.size)):Nat):Int)+s1.2) (FK .u8 x2 o2)) fun l2=>some (.next ((⟨s1.1.size,l2,s1.1.BD,s1.1.steps,s1.1.left,s1.1.BQ,s1.1.down⟩:zA),wrap .i64 (s1.2+1)))) else (some (.done s1.1))) (r1.1,0)) fun o3=>bif r1.2 then (some (o3,10)) else (some (o3,0))))
theorem zAM [AP] {AB EJ A1 c1 A2 c2 AZ r} (h:rU AB EJ=some r):
    BA Tryz.prog 240 [.pointer (some ⟨AZ,0,none⟩), .int .i64 EJ] [.res (Box AZ 131 (zG AB A1 c1 A2 c2)), .res (zI AQ 5 A1 c1 AB.bytes), .res (zI zU 3 A2 c2 AB.BD)] (fun v F=>∃ A3 c3 A4 c4,v= .int .i64 r.2∧F= [.res (Box AZ 131 (zG r.1 A3 c3 A4 c4)), .res (zI AQ 5 A3 c3 r.1.bytes), .res (zI zU 3 A4 c4 r.1.BD)]):=by
 refine BA.intro Tryz.func240 O O O fun w R=>?_;refine .ab [0,1] O<|.seq<|.block<|.a 3 O<|.lb 6 0 O<|.b [0,1,9] O<|.cb h O (fun h=>?_) (fun h=>?_)
 ·refine .ab [4] O ?_;cases h;exact .rv O O ⟨A1,c1,A2,c2,O,O⟩ zw
 refine .seq<|.bd h fun o1 hj1 h=>.cu 0 [0,1, .s 14 (.bool o1)] [] O O ?_ ?_
 ·refine .region<|.n 3 O<|.gs 17 hj1 O (fun hj1=>?_) (fun hj1=>?_)
  ·cases hj1;exact .be O<|.hU O zw
  refine .n 4 O<|.BN O O<|.lb 2 0 O ?_;cases hj1;exact .be O<|.hU O zw
 refine .cb h O (fun h=>?_) (fun h=>?_)
 ·refine .ab [4] O ?_;cases h;exact .rv O O ⟨A1,c1,A2,c2,O,O⟩ zw
 refine .skip<|.BL<|.AO<|.pr [0,1] O<|.a 3 O<|.lb 2 0 O<|.p O O<|.bd h fun x1 hx1 h=>.PW hx1 2 O fun g1 hA=>?_;subst hA;refine .MJ 0 hx1 O O (zm 2 O) O O<|.p O O<|.PW hx1 2 O fun g2 hA=>?_;cases hA;refine .bd h fun l1 hl1 h=>.TB 0 hx1 hl1 O O (CS 2 O) O O O O O ?_;refine .ss 29 (wY hl1)<|.AY (F':=.res (zI zU 3 (some ⟨g1,0,none⟩) c2 l1):: .res (Box AZ 131 [.int .i64 AB.size, .slice A1 AB.bytes.length c1, .slice (some ⟨g1,0,none⟩) l1.length c2, .int .i64 AB.steps, .int .i64 AB.left, .int .u8 AB.BQ, .bool AB.down]):: .res (zI AQ 5 A1 c1 AB.bytes)::R) (fun _ w=>by rw [sV hl1]; exact w)<|.b [0,1] O<|.a 1 O<|.bd h fun r1 hr1 h=>.ct 3 [] [1,1] 0 (gD hr1) zQp O fun A3 c3 A4 c4=>.b [0,1,5] O<|.ae O<|.seq<|.bd h fun o2 hj2 h=>.cu 0 [0,1,5, .s 6 (.int .u8 o2)] [] O O ?_ ?_
 ·refine .ae O<|.cb hj2 O (fun hj2=>?_) (fun hj2=>?_)
  ·refine .region<|.n 3 O<|.lb 5 0 O ?_;cases hj2;exact .be O<|.hU O zw
  cases hj2;exact .sk<|.hU O zw
 refine .seq<|.regionF mixed (by kernel_rfl)<|.n 3 O<|.lb 1 0 O<|.n 4 O<|.lb 0 0 O<|.n 6 O<|.lb 0 0 O<|.p O O<|.bd h fun n1 hn1 h=>.part (E:=AQ) hn1 O O EO O O O O O O O<|.bq [5,6,7] O<|.seq<|.ab [5,6,7,61,62] O<|.bd h fun o3 hl1 h=>.DV 3 (fun (e4:Option Addr × Nat × Option Addr × Nat)=>[5]) (fun e4=>[.res (zI zU 3 e4.2.2.1 e4.2.2.2 o3.BD), .res (zI AQ 5 e4.1 e4.2.1 o3.bytes), .res (Box AZ 131 (zG o3 e4.1 e4.2.1 e4.2.2.1 e4.2.2.2))]) O O ?_ ?_
 ·refine .block<|.BM hl1 3 (fun (s1:zA × Int) (e3:Option Addr × Nat × Option Addr × Nat)=>[5,6, .s 7 (.slice (dX e3.1 e3.2.1 (Int.toNat (wrap .i64 (EJ*r1.1.size))) 1) n1 (e3.2.1 - (Int.toNat (wrap .i64 (EJ*r1.1.size))))),61, .s 62 (.int .i64 s1.2)]) (fun s1 e3=>[.res (zI zU 3 e3.2.2.1 e3.2.2.2 s1.1.BD), .res (zI AQ 5 e3.1 e3.2.1 s1.1.bytes), .res (Box AZ 131 (zG s1.1 e3.1 e3.2.1 e3.2.2.1 e3.2.2.2))]) O O (A3,c3,A4,c4) (zb O) (zl [2,1] 0 O) ?_;rintro s1 ⟨A5,c5,A6,c6⟩ st1 hm1 hd1 h1;refine .ae O<|.seq<|.cb h1 O (fun h1=>?_) (fun h1=>?_)
  ·refine .sk<|.pr [5,6,7,61,62] O<|.seq<|.block<|.ab [5,6,7,8,61,62] O<|.region<|.n 2 O<|.bd h1 fun x2 hx2 h1=>.QH (E:=AQ) kQ hx2 O O O EO O O O O fun g3 hA=>?_;subst hA;refine .MJ 0 (bY hx2) O O EO O O<|.n 2 O<|.bd h1 fun x3 hx3 h1=>.QH (E:=AQ) kQ hx3 O O O EO O O O O fun g4 hA=>?_;cases hA;refine .bd h1 fun l2 hl2 h1=>.TB 0 (bY hx3) hl2 O O (.s .z) O O O O O<|.AY (F':=.res (zI AQ 5 (some ⟨g3,0,none⟩) c5 l2):: .res (zI zU 3 A6 c6 s1.1.BD):: .res (Box AZ 131 [.int .i64 s1.1.size, .slice (some ⟨g3,0,none⟩) l2.length c5, .slice A6 s1.1.BD.length c6, .int .i64 s1.1.steps, .int .i64 s1.1.left, .int .u8 s1.1.BQ, .bool s1.1.down])::R) (fun _ w=>by rw [sV hl2]; exact w)<|.done<|.BL<|.AO<|.pr [5,6,7,61,62] O<|.region ?_;cases h1;exact .be O<|.ag ((some ⟨g3,0,none⟩),c5,A6,c6) hm1 O (zl [1] 0 O)
  refine .xq O ?_;cases h1;cases hd1 _ rfl
  exact .AO<|.hE (A5,c5,A6,c6) O zw
 rintro ⟨A7,c7,A8,c8⟩;refine .seq<|.ab [73] O<|.cb h O (fun h=>?_) (fun h=>?_)
 ·refine .ab [4] O ?_;cases h;exact .rv O O ⟨A7,c7,A8,c8,O,O⟩ (zl [2,1] 0 O)
 refine .sk<|.pr [] O<|.ae O ?_;cases h;exact .rv O O ⟨A7,c7,A8,c8,O,O⟩ (zl [2,1] 0 O)
theorem zTJ:BX Tryz.prog 241:=en Tryz.func241 (by kernel_rfl)
def wU [AP] (EM:(Option (List (Int × (List Int))))):Option (List zD):=
 bnd (Zy EM) fun r1=>bnd (gO EM) fun r2=>bnd (yC (τ:=List zD) (fun (s1:List zD × Int)=>bif decide (s1.2<(r2.length:Int)) then (bnd (BP r2 s1.2) fun x1=>bnd (zV ((vW (yH .u8).eq (EM.getD []) x1).getD [])) fun r3=>bnd (app 40 s1.1 [(⟨x1,r3,false⟩:zD)]) fun l1=>some (.next (l1,wrap .i64 (s1.2+1)))) else (some (.done s1.1))) ([],0)) fun o1=>some o1
theorem eH [AP] {EM M1 r} (h:wU EM=some r):
    BA Tryz.prog 241 [.map M1] [.res (yV (yH .u8) (CY AQ) M1 EM)] (fun v F=>∃ A1 c1,v= .slice A1 r.length c1∧F= [.res (yV (yH .u8) (CY AQ) M1 EM), .res (yU (zT zJ) 107 A1 c1 r)]):=by
 refine BA.intro Tryz.func241 O O O fun w R=>?_;refine .ab [0] O<|.ae O<|.seq<|.a 1 O<|.bd h fun r1 hr1 h=>.call (zOm hr1) zUl O O O (fun _ w=>w) ?_;rintro _ _ ⟨g1,rfl,rfl⟩;refine .nm 2 O<|.bd h fun r2 hr2 h=>.cr 3 [] [] 0 (zIU hr2) zTY O fun A1 c1=>.bf [0,3,8,9,10] [] 1 O O<|.AY (fun _ w=>w.MK (zT zJ) 107)<|.bd h fun o1 hl1 h=>.DV 3 (fun (e2:Option Addr × Nat)=>[.s 3 (.slice e2.1 o1.length e2.2)]) (fun e2=>[.res (yU (zT zJ) 107 e2.1 e2.2 o1),1]) O O ?_ ?_
 ·refine .block<|.BM hl1 1 (fun (s1:List zD × Int) (e1:Option Addr × Nat)=>[0, .s 3 (.slice e1.1 s1.1.length e1.2),8,9, .s 10 (.int .i64 s1.2)]) (fun s1 e1=>[.res (yU (zT zJ) 107 e1.1 e1.2 s1.1)]) O O (none,0) (zb O) (fun _ w=>w) ?_;rintro s1 ⟨A2,c2⟩ st1 hm1 hd1 h1;refine .ae O<|.seq<|.cb h1 O (fun h1=>?_) (fun h1=>?_)
  ·refine .sk<|.pr [0,3,8,9,10] O<|.seq<|.block<|.seq<|.region<|.bd h1 fun x1 hx1 h1=>.PW hx1 2 O fun g2 hA=>?_;subst hA;refine .MJ 0 hx1 O O (zm 2 O) O O<|.b [0,3,5,8,9,10] O<|.region<|.n 4 O<|.TL (K:=(yH .u8)) (E:=(CY AQ)) x1 O O O EO O O O O O O fun A4 c4=>.bd h1 fun r3 hr3 h1=>.cr 5 [0] [] 0 (yN hr3) aJ O fun A5 c5=>.p O O<|.bS O fun g3=>.bd h1 fun l1 hl1 h1=>.AY (fun _ w=>(w.sl [1] 0 O).BU)<|.LW (E:=(zT zJ)) hl1 O O O (CS 3 O) O O O O O O O O (cV (ls:=zJ) [((⟨x1,r3,false⟩:zD),((A5,c5),()))] EO O O O ⟨(.head _),trivial⟩) O O fun A6 c6=>.p O O<|.done<|.BL<|.AO<|.pf [0,3,8,9,10] [0] 3 O O<|.region ?_;cases h1;exact .be O<|.ag (A6,c6) hm1 O zw
  refine .xq O ?_;cases h1;cases hd1 _ rfl
  exact .AO<|.hE (A2,c2) O (zl [0,0] 1 O)
 rintro ⟨A3,c3⟩;refine .ab [2] O ?_;cases h;exact .rv O O ⟨A3,c3,O,O⟩ (zl [1] 0 O)
theorem zTz:BX Tryz.prog 192:=en Tryz.func192 (by kernel_rfl)
def uQ [AP] (AX:zE) (next:(Option (List (Int × (List Int))))) (DR:zA):Option (zE × zA × Int):=
 bif (AX.generation==2147483648) then (some (AX,DR,3)) else (bnd ((bif (AX.active==0) then (some 1) else (some 0):Option Int)) fun o1=>bnd (nD AX.d) fun bb1=>bnd (yJ DR) fun r1=>bnd (nD AX.d) fun bb2=>bnd (yJ DR) fun r2=>bnd (uE DR (wrap .i64 ((wrap .i64 (AX.first+o1))*r1)) r2) fun r3=>bnd ((bnd ((bif (r3.2.2==0) then (bnd (pE r3.2.1) fun r4=>some (!r4)) else (some false):Option Bool)) fun o3=>bif o3 then (bnd (nD AX.d) fun bb3=>bnd (rU r3.1 (wrap .i64 (AX.first+o1))) fun r5=>some (r5.2,r5.1)) else (some (r3.2.2,r3.1)):Option (Int × zA))) fun o2=>bnd ((bif (o2.1==0) then (bnd (nD AX.d) fun D6=>bnd (wD o2.2 (wrap .i64 ((wrap .i64 (AX.first+o1))*r1)) ([wrap .u8 (wrap .i64 (AX.generation+1)),wrap .u8 (rM .i64 (wrap .i64 (AX.generation+1)) 8),wrap .u8 (rM .i64 (wrap .i64 (AX.generation+1)) 16),wrap .u8 (rM .i64 (wrap .i64 (AX.generation+1)) 24)])) fun r6=>some (r6.2,r6.1)) else (some (o2.1,o2.2)):Option (Int × zA))) fun o4=>bnd ((bnd ((bif (o4.1==0) then (some (decide ((((next.getD []).length:Nat):Int)>0))) else (some false):Option Bool)) fun o6=>bif o6 then (bnd (wU next) fun r7=>bnd (qC r7) fun r8=>bnd (nD AX.d) fun D7=>bnd (wD o4.2 (wrap .i64 ((wrap .i64 ((wrap .i64 (AX.first+o1))*r1))+5)) r8) fun r9=>some (wrap .i64 (5+(r8.length:Int)),r9.2,r9.1)) else (some (5,o4.1,o4.2)):Option (Int × Int × zA))) fun o5=>bnd ((bif (o5.2.1==0) then (bnd (nD AX.d) fun D8=>bnd (wD o5.2.2 (wrap .i64 ((wrap .i64 ((wrap .i64 (AX.first+o1))*r1))+4)) ([0])) fun r10=>some (r10.2,r10.1)) else (some (o5.2.1,o5.2.2)):Option (Int × zA))) fun o7=>bif (o7.1==0) then (some ((⟨AX.d,AX.first,o1,wrap .i64 (AX.generation+1),next,o5.1,true,AX.ended⟩:zE),o7.2,o7.1)) else (some (AX,o7.2,o7.1)))
theorem aU [AP] {AX next DR A1 c1 A2 c2 M1 M2 AZ BJ r} (h:uQ AX next DR=some r):
    BA Tryz.prog 192 [.pointer (some ⟨AZ,0,none⟩), .map M2] [.res (Box AZ 135 (zR AX BJ M1)), .res (yV (yH .u8) (CY AQ) M1 AX.all), .res (yV (yH .u8) (CY AQ) M2 next), .res (Box BJ 131 (zG DR A1 c1 A2 c2)), .res (zI AQ 5 A1 c1 DR.bytes), .res (zI zU 3 A2 c2 DR.BD)] (fun v F=>∃ M3 A3 c3 A4 c4,v= .int .i64 r.2.2∧F= [.res (Box AZ 135 (zR r.1 BJ M3)), .res (yV (yH .u8) (CY AQ) M3 r.1.all), .res (Box BJ 131 (zG r.2.1 A3 c3 A4 c4)), .res (zI AQ 5 A3 c3 r.2.1.bytes), .res (zI zU 3 A4 c4 r.2.1.BD)]):=by
 refine BA.intro Tryz.func192 O O O fun w R=>?_;refine .ab [0,1] O<|.seq<|.a 3 O<|.lb 3 0 O<|.b [0,1,16] O<|.cb h O (fun h=>?_) (fun h=>?_)
 ·refine .ab [4] O ?_;cases h;exact .rv O O ⟨M1,A1,c1,A2,c2,O,O⟩ (zl [0,0] 1 O)
 refine .sk<|.pr [0,1] O<|.seq<|.regionF mixed (by kernel_rfl)<|.n 3 O<|.lb 3 0 O<|.bq [0,1,5,6,7] O<|.seq<|.bd h fun o1 hj1 h=>.cu 0 [0,1, .s 5 (.int .i64 o1),6,7] [] O O ?_ ?_
 ·refine .a 3 O<|.lb 2 0 O<|.b [0,1,5,6,7,26] O<|.cb hj1 O (fun hj1=>?_) (fun hj1=>?_)
  ·refine .region ?_;cases hj1;exact .be O<|.hU O zw
  cases hj1;exact .sk<|.hU O zw
 refine .seq<|.BI (iN [0,4,8,12,16,20,24,28,32,37,43,44,48] .nil) _ mixed (by kernel_rfl) zw<|.yn 3 O<|.yl 1 0 O<|.yn 5 O<|.yx 0 0 O<|.BV<|.bd h fun bb1 KD h=>?_;refine .ss 36 (uD KD)<|.bd h fun r1 hr1 h=>.cq 6 [] [3,3,3] 0 (vA hr1) ja O<|.xk (zl [3,3,3] 0 O)<|.yn 2 O<|.CQ<|.AO<|.pr [0,1,5,6,7,8] O<|.seq<|.BI (iN [0,4,8,12,16,20,24,28,33,39,43,44,48,52,56,60] .nil) _ mixed (by kernel_rfl) (zl [] 3 O)<|.yn 3 O<|.yl 0 0 O<|.yn 4 O<|.yx 0 3 O<|.BV<|.bd h fun bb2 MZ h=>?_;refine .ss 43 (uD MZ) ?_;refine .ss 48 (uD MZ)<|.bd h fun r2 hr2 h=>.cq 6 [] [] 0 (vA hr2) ja O<|.xk (zl [] 3 O)<|.BV<|.bd h fun r3 hr3 h=>.call (gI hr3) zSe O O O (fun _ w=>w) ?_;rintro _ _ ⟨A3,c3,A4,c4,A5,c5,rfl,rfl⟩;refine .nm 7 O<|.xk (zl [] 4 O)<|.yn 5 O<|.CQ<|.AO<|.pr [0,1,5,6,7,8,9,10] O<|.seq<|.bd h fun o2 hj2 h=>.DV 4 (fun (e2:Option Addr × Nat × Option Addr × Nat)=>[0,1,5,6,7,8, .s 10 (.int .i64 o2.1)]) (fun e2=>[.res (zI zU 3 e2.2.2.1 e2.2.2.2 o2.2.BD), .res (zI AQ 5 e2.1 e2.2.1 o2.2.bytes), .res (Box BJ 131 (zG o2.2 e2.1 e2.2.1 e2.2.2.1 e2.2.2.2))]) O O ?_ ?_
 ·refine .seq<|.bd hj2 fun o3 hj3 hj2=>.cu 4 [0,1,5,6,7,8,10, .s 59 (.bool o3)] [0,1,2] O O ?_ ?_
  ·refine .region<|.n 3 O<|.gs 55 hj3 O (fun hj3=>?_) (fun hj3=>?_)
   ·refine .n 1 O<|.BN O O<|.AY (fun _ w=>(w.sl [3] 0 O).BU)<|.bd hj3 fun r4 hr4 hj3=>.cv [0] (cA hr4) zQj O ?_;cases hj3;exact .be O<|.hU O (zl [] 1 O)
   cases hj3;exact .be O<|.hU O (zl [0,0,0] 1 O)
  refine .cb hj2 O (fun hj2=>?_) (fun hj2=>?_)
  ·refine .BI (iN [0,4,8,13,16,20,24,29,32,36,43,44] .nil) _ mixed (by kernel_rfl) (zl [] 3 O)<|.yn 3 O<|.yx 0 3 O<|.yn 3 O<|.yx 1 3 O<|.yn 2 O<|.BV<|.bd hj2 fun bb3 UA hj2=>?_;refine .ss 63 (uD UA)<|.bd hj2 fun r5 JH hj2=>.ct 6 [] [] 0 (zAM JH) zTB O fun A8 c8 A9 c9=>.xk (zl [] 3 O)<|.yn 1 O<|.CQ ?_;cases hj2;exact .AO<|.hE (A8,c8,A9,c9) O (zl [2,1] 0 O)
  cases hj2;exact .sk<|.hE (A3,c3,A4,c4) O (zl [2,1] 0 O)
 rintro ⟨A6,c6,A7,c7⟩;refine .seq<|.bd h fun o4 FZ h=>.DV 3 (fun (e4:Option Addr × Nat × Option Addr × Nat)=>[0,1,5,6,7,8, .s 10 (.int .i64 o4.1)]) (fun e4=>[.res (zI zU 3 e4.2.2.1 e4.2.2.2 o4.2.BD), .res (zI AQ 5 e4.1 e4.2.1 o4.2.bytes), .res (Box BJ 131 (zG o4.2 e4.1 e4.2.1 e4.2.2.1 e4.2.2.2))]) O O ?_ ?_
 ·refine .ab [0,1,5,6,7,8,10,72] O<|.cb FZ O (fun FZ=>?_) (fun FZ=>?_)
  ·refine .region<|.n 3 O<|.lb 0 3 O<|.n 12 O<|.bS O fun g1=>.bd FZ fun D6 je FZ=>?_;refine .ss 76 (uD je)<|.AY (fun _ w=>w.IL (E:=AQ) (e:=5) [wrap .u8 (wrap .i64 (AX.generation+1)),wrap .u8 (rM .i64 (wrap .i64 (AX.generation+1)) 8),wrap .u8 (rM .i64 (wrap .i64 (AX.generation+1)) 16),wrap .u8 (rM .i64 (wrap .i64 (AX.generation+1)) 24)] O O)<|.AY (fun _ w=>w.BU)<|.bd FZ fun r6 KU FZ=>.ct 7 [3] [3,2,1] 0 (sG KU) Rq O fun FX c12 IE c13=>?_;cases FZ;exact .be O<|.hE (FX,c12,IE,c13) O (zl [2,1,0] 1 O)
  cases FZ;exact .sk<|.hE (A6,c6,A7,c7) O zw
 rintro ⟨EC,c10,EW,c11⟩;refine .seq<|.bd h fun o5 JB h=>.DV 3 (fun (e5:Option Addr × Nat × Option Addr × Nat)=>[0,1,5,6, .s 7 (.int .i64 o5.1),8, .s 10 (.int .i64 o5.2.1)]) (fun e5=>[.res (zI zU 3 e5.2.2.1 e5.2.2.2 o5.2.2.BD), .res (zI AQ 5 e5.1 e5.2.1 o5.2.2.bytes), .res (Box BJ 131 (zG o5.2.2 e5.1 e5.2.1 e5.2.2.1 e5.2.2.2))]) O O ?_ ?_
 ·refine .seq<|.bd JB fun o6 QK JB=>.cu 0 [0,1,5,6,7,8,10, .s 97 (.bool o6)] [] O O ?_ ?_
  ·refine .region<|.n 3 O<|.gs 93 QK O (fun QK=>?_) (fun QK=>?_)
   ·refine .n 1 O<|.BN O O<|.OX (K:=(yH .u8)) (E:=(CY AQ)) O O (zm 5 O) O O O ?_;cases QK;exact .be O<|.hU O zw
   cases QK;exact .be O<|.hU O zw
  refine .cb JB O (fun JB=>?_) (fun JB=>?_)
  ·refine .a 1 O<|.bd JB fun r7 OY JB=>.cr 7 [] [5] 0 (eH OY) zTJ O fun LG c16=>.AY (fun _ w=>(w.sl [1] 0 O).IJ)<|.bd JB fun r8 OZ JB=>.cr 8 [0] [] 0 (dC OZ) zQF O fun LY c17=>.bf [0,1,5,6,7,8,11] [0] 1 O O<|.ab [0,1,5,6,7,8,11] O<|.region<|.n 3 O<|.lb 0 5 O<|.n 3 O<|.bd JB fun D7 jf JB=>?_;refine .ss 108 (uD jf)<|.AY (fun _ w=>w.BU)<|.bd JB fun r9 QW JB=>.ct 7 [3] [4,3,2] 0 (sG QW) Rq O fun KO c18 JS c19=>?_;cases JB;exact .be O<|.hE (KO,c18,JS,c19) O (zl [2,1,0,2,2] 1 O)
  cases JB;exact .sk<|.hE (EC,c10,EW,c11) O zw
 rintro ⟨GU,c14,KL,c15⟩;refine .seq<|.bd h fun o7 OE h=>.DV 3 (fun (e7:Option Addr × Nat × Option Addr × Nat)=>[0,1,5,6,7, .s 10 (.int .i64 o7.1)]) (fun e7=>[.res (zI zU 3 e7.2.2.1 e7.2.2.2 o7.2.BD), .res (zI AQ 5 e7.1 e7.2.1 o7.2.bytes), .res (Box BJ 131 (zG o7.2 e7.1 e7.2.1 e7.2.2.1 e7.2.2.2))]) O O ?_ ?_
 ·refine .ab [0,1,5,6,7,8,10,114] O<|.cb OE O (fun OE=>?_) (fun OE=>?_)
  ·refine .region<|.n 3 O<|.lb 0 3 O<|.n 2 O<|.bS O fun g2=>.bd OE fun D8 jg OE=>?_;refine .ss 118 (uD jg)<|.AY (fun _ w=>w.IL (E:=AQ) (e:=5) [0] O O)<|.AY (fun _ w=>w.BU)<|.bd OE fun r10 LH OE=>.ct 7 [3] [3,2,1] 0 (sG LH) Rq O fun LP LQ OJ c23=>?_;cases OE;exact .be O<|.hE (LP,LQ,OJ,c23) O (zl [2,1,0] 1 O)
  cases OE;exact .sk<|.hE (GU,c14,KL,c15) O zw
 rintro ⟨JU,c20,KE,c21⟩;refine .seq<|.ab [0,1,5,6,7,10,124] O<|.cb h O (fun h=>?_) (fun h=>?_)
 ·refine .region<|.n 11 O<|.sb 2 3 O<|.n 2 O<|.sb 3 0 O<|.n 2 O<|.sb 4 0 O<|.n 2 O<|.sb 5 0 O<|.n 2 O<|.sb 6 0 O<|.bf [10] [0,0,0,0] 1 O O<|.ab [4] O ?_;cases h;exact .rv O O ⟨M2,JU,c20,KE,c21,O,O⟩ (zl [0,3,2,1] 0 O)
 refine .sk<|.pr [10] O<|.ab [4] O ?_;cases h;exact .rv O O ⟨M1,JU,c20,KE,c21,O,O⟩ (zl [3,3,2,1,0] 1 O)
theorem zOS:BX Tryz.prog 105:=en Tryz.func105 (by kernel_rfl)
def yT [AP] (AX:zE) (FB:(List zD)) (DR:zA):Option (zE × zA × Int):=
 bnd ((bif AX.ended then (some true) else (bnd (nD AX.d) fun bb1=>bnd (qT DR) fun r1=>some r1):Option Bool)) fun o1=>bif o1 then (some ((⟨false,0,0,0,none,0,false,true⟩:zE),DR,10)) else (bnd (nM FB) fun r2=>bnd ((bif (r2 != 0) then (some true) else (some ((FB.length:Int)==0)):Option Bool)) fun o2=>bif o2 then (some (AX,DR,r2)) else (bnd (wM AX.all FB) fun r3=>bif decide ((((r3.getD []).length:Nat):Int)>32) then (some (AX,DR,3)) else (bnd (qC FB) fun r4=>bnd ((bif decide (AX.active≥0) then (bif AX.clean then (bnd (nD AX.d) fun bb2=>bnd (yJ DR) fun r5=>some (decide ((r4.length:Int)≤(wrap .i64 (r5 - AX.tail))))) else (some false)) else (some false):Option Bool)) fun o3=>bif o3 then (bnd (nD AX.d) fun bb3=>bnd (yJ DR) fun r6=>bnd (wD DR (wrap .i64 ((wrap .i64 ((wrap .i64 (AX.first+AX.active))*r6))+AX.tail)) r4) fun r7=>bif (r7.2==0) then (bif (r7.2==10) then (some ((⟨false,0,0,0,none,0,false,true⟩:zE),r7.1,r7.2)) else (some ((⟨AX.d,AX.first,AX.active,AX.generation,r3,wrap .i64 (AX.tail+(r4.length:Int)),AX.clean,AX.ended⟩:zE),r7.1,r7.2))) else (bif (r7.2==10) then (some ((⟨false,0,0,0,none,0,false,true⟩:zE),r7.1,r7.2)) else (some (AX,r7.1,r7.2)))) else (bnd (uQ AX r3 DR) fun r8=>bif (r8.2.2==10) then (some ((⟨false,0,0,0,none,0,false,true⟩:zE),r8.2.1,r8.2.2)) else (some (r8.1,r8.2.1,r8.2.2))))))
theorem lF [AP] {AX FB DR A1 c1 A2 c2 A3 c3 M1 AZ BJ r} (h:yT AX FB DR=some r):
    BA Tryz.prog 105 [.pointer (some ⟨AZ,0,none⟩), .slice A1 FB.length c1] [.ro (Sl (zT zJ) A1 c1 FB), .res (Box AZ 135 (zR AX BJ M1)), .res (yV (yH .u8) (CY AQ) M1 AX.all), .res (Box BJ 131 (zG DR A2 c2 A3 c3)), .res (zI AQ 5 A2 c2 DR.bytes), .res (zI zU 3 A3 c3 DR.BD)] (fun v F=>∃ M2 A4 c4 A5 c5,v= .int .i64 r.2.2∧F= [.res (Box AZ 135 (zR r.1 BJ M2)), .res (yV (yH .u8) (CY AQ) M2 r.1.all), .res (Box BJ 131 (zG r.2.1 A4 c4 A5 c5)), .res (zI AQ 5 A4 c4 r.2.1.bytes), .res (zI zU 3 A5 c5 r.2.1.BD)]):=by
 refine BA.intro Tryz.func105 O O O fun w R=>?_;refine .ab [0,1] O<|.seq<|.seq<|.bd h fun o1 hj1 h=>.cu 0 [0,1, .s 19 (.bool o1)] [] O O ?_ ?_
 ·refine .region<|.n 3 O<|.lb 7 1 O<|.p O O<|.gs 13 hj1 O (fun hj1=>?_) (fun hj1=>?_)
  ·cases hj1;exact .be O<|.hU O zw
  refine .n 3 O<|.BN O O<|.lb 0 1 O<|.BN O O<|.bd hj1 fun bb1 KD hj1=>?_;refine .ss 17 (uD KD)<|.bd hj1 fun r1 hr1 hj1=>.cq 6 [] [3,3,3] 0 (zBq hr1) zTf O ?_;cases hj1;exact .be O<|.hU O (zl [3,3,3] 0 O)
 refine .cb h O (fun h=>?_) (fun h=>?_)
 ·refine .a 3 O<|.sb 0 1 O<|.bf [] [0] 2 O O<|.ae O<|.AY (fun _ w=>w.TW (yH .u8) (CY AQ)) ?_;cases h;exact .rv O O ⟨none,A2,c2,A3,c3,O,O⟩ (zl [1] 0 O)
 refine .sk<|.pr [0,1] O<|.seq<|.a 1 O<|.bd h fun r2 hr2 h=>.cv [0] (zDZ hr2) zSX O<|.b [0,1,5] O<|.seq<|.bd h fun o2 hj2 h=>.cu 0 [0,1,5, .s 31 (.bool o2)] [] O O ?_ ?_
 ·refine .region<|.n 3 O<|.gs 27 hj2 O (fun hj2=>?_) (fun hj2=>?_)
  ·cases hj2;exact .be O<|.hU O zw
  cases hj2;exact .be O<|.hU O zw
 refine .cb h O (fun h=>?_) (fun h=>?_)
 ·refine .EK [4] [] 1 O O ?_;cases h;exact .rv O O ⟨M1,A2,c2,A3,c3,O,O⟩ zw
 refine .sk<|.pr [0,1] O<|.a 3 O<|.lb 4 1 O<|.p O O<|.bd h fun r3 hr3 h=>.call (mJ hr3) zQS O O O (zd [1] [2] 0 O) ?_;rintro _ _ ⟨M2,rfl,rfl⟩;refine .nm 7 O<|.b [0,1,6] O<|.seq<|.a 1 O<|.OX (K:=(yH .u8)) (E:=(CY AQ)) O O EO O O O<|.b [0,1,6,41] O<|.cb h O (fun h=>?_) (fun h=>?_)
 ·refine .EK [4] [0] 2 O O ?_;cases h;exact .rv O O ⟨M1,A2,c2,A3,c3,O,O⟩ (zl [1] 0 O)
 refine .sk<|.pr [0,1,6] O<|.a 1 O<|.bd h fun r4 hr4 h=>.cr 8 [2] [] 0 (dC hr4) zQF O fun A4 c4=>.bf [0,6,7] [0,0,0] 1 O O<|.ab [0,6,7] O<|.seq<|.seq<|.bd h fun o3 hj3 h=>.cu 0 [0,6,7, .s 69 (.bool o3)] [] O O ?_ ?_
 ·refine .BI (iN [0,4,8,13,16,20,24,28,32,37,40,44,48,52,56,60,64,69,76,80,84,88,75,92,96,100] .nil) _ mixed (by kernel_rfl) zw<|.yn 3 O<|.yx 2 3 O<|.yn 2 O<|.sB 49 hj3 O (fun hj3=>?_) (fun hj3=>?_)
  ·refine .yn 3 O<|.IY O O<|.yx 6 3 O<|.yn 2 O<|.sB 55 hj3 O (fun hj3=>?_) (fun hj3=>?_)
   ·refine .yn 5 O<|.IY O O<|.yx 0 3 O<|.yn 3 O<|.IY O O<|.yl 5 3 O<|.IY O O<|.BV<|.bd hj3 fun bb2 MZ hj3=>?_;refine .ss 61 (uD MZ)<|.bd hj3 fun r5 JH hj3=>.cq 7 [] [4,4,4] 0 (vA JH) ja O<|.xk (zl [3,3,3,3] 0 O)<|.yn 3 O<|.CQ ?_;cases hj3;exact .AO<|.hU O (zl [3,3,3,3] 0 O)
   refine .yn 14 O<|.CQ ?_;cases hj3;exact .AO<|.hU O zw
  refine .yn 20 O<|.CQ ?_;cases hj3;exact .AO<|.hU O zw
 refine .cb h O (fun h=>?_) (fun h=>?_)
 ·refine .seq<|.BI (iN [0,4,8,12,16,20,24,28,32,36,40,44,48,52,56,60,65,76,80,84,88,96,71,72,92,103,104] .nil) _ mixed (by kernel_rfl) (zl [1,1,1] 4 O)<|.yn 3 O<|.yl 0 2 O<|.yn 3 O<|.yl 1 2 O<|.yn 3 O<|.yl 2 2 O<|.yn 4 O<|.yx 0 3 O<|.yn 3 O<|.yl 5 2 O<|.yn 1 O<|.BV<|.bd h fun bb3 UA h=>?_;refine .ss 73 (uD UA) ?_;refine .ss 86 (uD UA)<|.bd h fun r6 KU h=>.cq 7 [] [4,4,4] 0 (vA KU) ja O<|.xk (zl [] 4 O)<|.yn 2 O<|.BV<|.AY (fun _ w=>(w.sl [3] 0 O).BU)<|.bd h fun r7 OY h=>.ct 7 [3] [1,1,1] 0 (sG OY) Rq O fun A5 c5 A6 c6=>.xk (zl [] 4 O)<|.yn 1 O<|.CQ<|.AO<|.pr [0,6,7,8] O<|.ab [0,6,7,8,97] O<|.cb h O (fun h=>?_) (fun h=>?_)
  ·refine .region<|.n 6 O<|.lb 5 6 O<|.n 5 O<|.sb 4 6 O<|.n 2 O<|.sb 5 0 O<|.bf [0,8] [0,0,0,0] 2 O O<|.seq<|.ab [0,8,116] O<|.cb h O (fun h=>?_) (fun h=>?_)
   ·refine .region<|.n 3 O<|.sb 0 0 O<|.bf [8] [0,0,0,0] 1 O O<|.ab [4] O<|.AY (fun _ w=>w.TW (yH .u8) (CY AQ)) ?_;cases h;exact .rv O O ⟨none,A5,c5,A6,c6,O,O⟩ (zl [1] 0 O)
   refine .sk<|.pr [8] O<|.ab [4] O ?_;cases h;exact .rv O O ⟨M2,A5,c5,A6,c6,O,O⟩ (zl [0,3] 0 O)
  refine .sk<|.pf [0,8] [0,0,0,1] 2 O O<|.seq<|.ab [0,8,116] O<|.cb h O (fun h=>?_) (fun h=>?_)
  ·refine .region<|.n 3 O<|.sb 0 4 O<|.bf [8] [0,0,0,0] 1 O O<|.ab [4] O<|.AY (fun _ w=>w.TW (yH .u8) (CY AQ)) ?_;cases h;exact .rv O O ⟨none,A5,c5,A6,c6,O,O⟩ (zl [1] 0 O)
  refine .sk<|.pr [8] O<|.ab [4] O ?_;cases h;exact .rv O O ⟨M1,A5,c5,A6,c6,O,O⟩ (zl [4,3] 0 O)
 refine .region<|.n 2 O<|.bd h fun r8 OZ h=>.call (aU (AZ:=AZ) (BJ:=BJ) OZ) zTz O O O (zl [3,1,1,1,1,1] 0 O) ?_;rintro _ _ ⟨M3,A7,c7,A8,c8,rfl,rfl⟩;refine .nm 6 O<|.bf [0,8] [0,0,0,0,0] 1 O O<|.seq<|.ab [0,8,116] O<|.cb h O (fun h=>?_) (fun h=>?_)
 ·refine .region<|.n 3 O<|.sb 0 0 O<|.bf [8] [0] 1 O O<|.ab [4] O<|.AY (fun _ w=>w.TW (yH .u8) (CY AQ)) ?_;cases h;exact .rv O O ⟨none,A7,c7,A8,c8,O,O⟩ (zl [1] 0 O)
 refine .sk<|.pr [8] O<|.ab [4] O ?_;cases h;exact .rv O O ⟨M3,A7,c7,A8,c8,O,O⟩ zw
theorem zTS:BX Tryz.prog 226:=en Tryz.func226 (by kernel_rfl)
def pG [AP] (AX:zE) (key:Int) (DR:zA):Option (zE × zA × Int):=
 bnd (yT AX ([(⟨key, [],true⟩:zD)]) DR) fun r1=>some (r1.1,r1.2.1,r1.2.2)
theorem cO [AP] {AX key DR A1 c1 A2 c2 M1 AZ BJ r} (h:pG AX key DR=some r):
    BA Tryz.prog 226 [.pointer (some ⟨AZ,0,none⟩), .int .u8 key] [.res (Box AZ 135 (zR AX BJ M1)), .res (yV (yH .u8) (CY AQ) M1 AX.all), .res (Box BJ 131 (zG DR A1 c1 A2 c2)), .res (zI AQ 5 A1 c1 DR.bytes), .res (zI zU 3 A2 c2 DR.BD)] (fun v F=>∃ M2 A3 c3 A4 c4,v= .int .i64 r.2.2∧F= [.res (Box AZ 135 (zR r.1 BJ M2)), .res (yV (yH .u8) (CY AQ) M2 r.1.all), .res (Box BJ 131 (zG r.2.1 A3 c3 A4 c4)), .res (zI AQ 5 A3 c3 r.2.1.bytes), .res (zI zU 3 A4 c4 r.2.1.BD)]):=by
 refine BA.intro Tryz.func226 O O O fun w R=>?_;refine .ab [0,1] O<|.a 3 O<|.bS O fun g1=>.AY (fun _ w=>w.CU (CY AQ))<|.AY (fun _ w=>Sat.OU (ls:=zJ) (e:=107) [((⟨key, [],true⟩:zD),((none,0),()))] O O O ⟨(.head _),trivial⟩ (w.sl [1] 0 O))<|.AY (fun _ w=>w.IJ)<|.bd h fun r1 hr1 h=>.call (lF (AZ:=AZ) (BJ:=BJ) hr1) zOS O O O (zd [5] [2,2,2,2,2] 0 O) ?_;rintro _ _ ⟨M2,A3,c3,A4,c4,rfl,rfl⟩;refine .nm 7 O<|.bf [4] [0,0,0,0,0] 2 O O ?_;cases h;exact .rv O O ⟨M2,A3,c3,A4,c4,O,O⟩ zw
theorem zPq:BX Tryz.prog 148:=en Tryz.func148 (by kernel_rfl)
def sW [AP] (AL:zM) (BG:zE) (BB:zA):Option (zM × zE × zA × Int):=
 bnd (nD AL.store) fun bb1=>bnd (pG BG 32 BB) fun r1=>bif (r1.2.2 != 0) then (some (AL,r1.1,r1.2.1,r1.2.2)) else (some ((⟨AL.store,AL.devices,AL.needs,0,AL.load,AL.before, []⟩:zM),r1.1,r1.2.1,0))
theorem fP [AP] {AL BG BB A1 c1 A2 c2 A3 c3 A4 c4 A5 c5 A6 c6 A7 c7 M1 AZ BJ DW r} (h:sW AL BG BB=some r):
    BA Tryz.prog 148 [.pointer (some ⟨AZ,0,none⟩)] [.ro (AV zS A2 c2 AL.needs), .ro (AV yW A3 c3 AL.load.Have), .ro (AV AQ A4 c4 AL.load.Data), .ro (AV zU A5 c5 AL.order), .res (Box AZ 144 (zL AL BJ A1 c1 A2 c2 A3 c3 A4 c4 A5 c5)), .res (yU (zT zC) 64 A1 c1 AL.devices), .res (Box BJ 135 (zR BG DW M1)), .res (yV (yH .u8) (CY AQ) M1 BG.all), .res (Box DW 131 (zG BB A6 c6 A7 c7)), .res (zI AQ 5 A6 c6 BB.bytes), .res (zI zU 3 A7 c7 BB.BD)] (fun v F=>∃ A8 c8 A9 c9 EC c10 EW c11 FX c12 M2 IE c13 GU c14,v= .int .i64 r.2.2.2∧F= [.ro (AV zS A9 c9 r.1.needs), .ro (AV yW EC c10 r.1.load.Have), .ro (AV AQ EW c11 r.1.load.Data), .ro (AV zU FX c12 r.1.order), .res (Box AZ 144 (zL r.1 BJ A8 c8 A9 c9 EC c10 EW c11 FX c12)), .res (yU (zT zC) 64 A8 c8 r.1.devices), .res (Box BJ 135 (zR r.2.1 DW M2)), .res (yV (yH .u8) (CY AQ) M2 r.2.1.all), .res (Box DW 131 (zG r.2.2.1 IE c13 GU c14)), .res (zI AQ 5 IE c13 r.2.2.1.bytes), .res (zI zU 3 GU c14 r.2.2.1.BD)]):=by
 refine BA.intro Tryz.func148 O O O fun w R=>?_;refine .ab [0] O<|.seq<|.a 3 O<|.lb 0 4 O<|.bd h fun bb1 KD h=>?_;refine .ss 7 (uD KD)<|.bd h fun r1 hr1 h=>.call (cO (AZ:=BJ) (BJ:=DW) hr1) zTS O O O (zl [6,6,6,6,6] 0 O) ?_;rintro _ _ ⟨M2,A8,c8,A9,c9,rfl,rfl⟩;refine .nm 11 O<|.b [0,3] O<|.ab [0,3,10] O<|.cb h O (fun h=>?_) (fun h=>?_)
 ·refine .ab [2] O ?_;cases h;exact .rv O O ⟨A1,c1,A2,c2,A3,c3,A4,c4,A5,c5,M2,A8,c8,A9,c9,O,O⟩ (zk 11 4 [7,8,9,10] [9,9] 0 O)
 refine .sk<|.pr [0] O<|.a 4 O<|.sb 3 9 O<|.n 2 O<|.sb 9 0 O<|.bf [] [0,0,0,0,0,0,0,0,0] 1 O O<|.ae O<|.AY (fun _ w=>w.CU (CY zU)) ?_;cases h;exact .rv O O ⟨A1,c1,A2,c2,A3,c3,A4,c4,none,0,M2,A8,c8,A9,c9,O,O⟩ (zk 11 4 [8,9,10,7] [1,9,1,1,1,1,1] 0 O)
theorem zTx:BX Tryz.prog 145:=en Tryz.func145 (by kernel_rfl)
def qL (AL:zM) (EI:Int):Option Bool:=
 bnd (vY AL EI) fun r1=>some (!r1)
theorem dJ {AL EI A1 c1 A2 c2 A3 c3 A4 c4 A5 c5 AZ BJ r} (h:qL AL EI=some r):
    BA Tryz.prog 145 [.pointer (some ⟨AZ,0,none⟩), .int .i64 EI] [.ro (AV zS A2 c2 AL.needs), .ro (AV yW A3 c3 AL.load.Have), .ro (AV AQ A4 c4 AL.load.Data), .ro (AV zU A5 c5 AL.order), .res (Box AZ 144 (zL AL BJ A1 c1 A2 c2 A3 c3 A4 c4 A5 c5)), .res (yU (zT zC) 64 A1 c1 AL.devices)] (fun v F=>v= .bool r∧F= [.res (Box AZ 144 (zL AL BJ A1 c1 A2 c2 A3 c3 A4 c4 A5 c5)), .res (yU (zT zC) 64 A1 c1 AL.devices)]):=by
 refine BA.intro Tryz.func145 O O O fun w R=>?_;refine .ab [0,1] O<|.a 2 O<|.bd h fun r1 hr1 h=>.cq 6 [2,3,4,5] [4,4] 0 (kJ (AZ:=AZ) hr1) zQW O<|.b [4] O ?_;cases h;exact .rv O O ⟨O,O⟩ (zl [0,0] 4 O)
def wN [AP] (AX:(List Int)) (CV:zM):Option Int:=
 bnd (yC (τ:=Int ⊕ Unit) (fun (s1:Int)=>bif decide (s1<(AX.length:Int)) then (bnd (BP AX s1) fun x1=>bnd (qL CV x1) fun r1=>bif r1 then (some (.done (.inl s1))) else (some (.next (wrap .i64 (s1+1))))) else (some (.done (.inr ())))) 0) fun o1=>xL o1 fun o2=>some (-1)
theorem rX [AP] {AX CV A1 c1 A2 c2 A3 c3 A4 c4 A5 c5 A6 c6 AZ BJ r} (h:wN AX CV=some r):
    BA Tryz.prog 225 [.slice A1 AX.length c1, .func (.func 145) #[.pointer (some ⟨AZ,0,none⟩)] #[]] [.ro (AV zU A1 c1 AX), .ro (AV zS A3 c3 CV.needs), .ro (AV yW A4 c4 CV.load.Have), .ro (AV AQ A5 c5 CV.load.Data), .ro (AV zU A6 c6 CV.order), .res (Box AZ 144 (zL CV BJ A2 c2 A3 c3 A4 c4 A5 c5 A6 c6)), .res (yU (zT zC) 64 A2 c2 CV.devices)] (fun v F=>v= .int .i64 r∧F= [.res (Box AZ 144 (zL CV BJ A2 c2 A3 c3 A4 c4 A5 c5 A6 c6)), .res (yU (zT zC) 64 A2 c2 CV.devices)]):=by
 refine BA.intro Tryz.func225 O O O fun w R=>?_;refine .ab [0,1] O<|.seq<|.ab [0,1,7,8] O<|.bd h fun o1 hl1 h=>.ES 1 (fun (o2:Unit) (e2:Unit)=>[]) (fun o2 e2=>[]) O O (fun o2=>o1= .inr o2) ?_ ?_
 ·refine .block<|.BM hl1 0 (fun (s1:Int) (e1:Unit)=>[0,1,7, .s 8 (.int .i64 s1)]) (fun s1 e1=>[]) O O () (zb O) (fun _ w=>w) ?_;rintro s1 e1 st1 hm1 hd1 h1;refine .ae O<|.seq<|.cb h1 O (fun h1=>?_) (fun h1=>?_)
  ·refine .sk<|.pr [0,1,7,8] O<|.seq<|.block<|.ab [0,1,5,7,8] O<|.a 3 O<|.bd h1 fun x1 hx1 h1=>.IB hx1 0 O fun b1 DY=>.ld DY 0 0 O<|.bd h1 fun r1 hr1 h1=>.ZF (us:= [.pointer (some ⟨AZ,0,none⟩)]) (args:= [.int .i64 x1]) (dJ (AZ:=AZ) hr1) zTx O O O (zd [4,5,6,7] [6,6] 0 O) ?_;rintro _ _ ⟨rfl,rfl⟩;refine .nm 8 O<|.bf [0,1,5,7,8,16] [0,0] 1 O O<|.cb h1 O (fun h1=>?_) (fun h1=>?_)
   ·refine .EK [4] [0,0] 1 O O ?_;cases h1;cases hd1 _ rfl
    have h:some _=some _:=h;cases h;exact .rv O O ⟨O,O⟩ (zl [0,0] 4 O)
   refine .skip<|.BL<|.AO<|.pr [0,1,7,8] O<|.region ?_;cases h1;exact .be O<|.ag () hm1 O (zl [2,2,2,2,2] 0 O)
  refine .xq O ?_;cases h1;cases hd1 _ rfl
  exact .AO<|.CZ () () O trivial (zl [] 1 O)
 rintro o2 e2 ho;subst ho;have h:=JG h;refine .ae O ?_;cases h;exact .rv O O ⟨O,O⟩ (zl [] 4 O)
def xW [AP] (AX:(List Int)) (CV:zM):Option Bool:=
 bnd (wN AX CV) fun r1=>some (decide (r1≥0))
theorem mA [AP] {AX CV A1 c1 A2 c2 A3 c3 A4 c4 A5 c5 A6 c6 AZ BJ r} (h:xW AX CV=some r):
    BA Tryz.prog 147 [.slice A1 AX.length c1, .func (.func 145) #[.pointer (some ⟨AZ,0,none⟩)] #[]] [.ro (AV zU A1 c1 AX), .ro (AV zS A3 c3 CV.needs), .ro (AV yW A4 c4 CV.load.Have), .ro (AV AQ A5 c5 CV.load.Data), .ro (AV zU A6 c6 CV.order), .res (Box AZ 144 (zL CV BJ A2 c2 A3 c3 A4 c4 A5 c5 A6 c6)), .res (yU (zT zC) 64 A2 c2 CV.devices)] (fun v F=>v= .bool r∧F= [.res (Box AZ 144 (zL CV BJ A2 c2 A3 c3 A4 c4 A5 c5 A6 c6)), .res (yU (zT zC) 64 A2 c2 CV.devices)]):=by
 refine BA.intro Tryz.func147 O O O fun w R=>?_;refine .ab [0,1] O<|.a 2 O<|.bd h fun r1 hr1 h=>.cq 7 [2,3,4,5,6] [5,5] 0 (rX (AZ:=AZ) hr1) D5 O<|.bf [4] [0,0] 1 O O ?_;cases h;exact .rv O O ⟨O,O⟩ (zl [0,0] 4 O)
theorem zRX:BX Tryz.prog 67:=en Tryz.func67 (by kernel_rfl)
def vD [AP] (AL:zM) (BG:zE) (BB:zA):Option (zM × zE × zA × Int):=
 bif (AL.phase==3) then (bnd (xZ AL.order AL) fun r1=>bif r1 then (some (AL,BG,BB,0)) else (bnd (sW AL BG BB) fun r2=>some (r2.1,r2.2.1,r2.2.2.1,r2.2.2.2))) else (bnd (xW AL.order AL) fun r3=>bif r3 then (some (AL,BG,BB,0)) else (bnd (sW AL BG BB) fun r4=>some (r4.1,r4.2.1,r4.2.2.1,r4.2.2.2)))
end Go.Proofs.YtplchdlgdjcojaaGreatDoor
end
